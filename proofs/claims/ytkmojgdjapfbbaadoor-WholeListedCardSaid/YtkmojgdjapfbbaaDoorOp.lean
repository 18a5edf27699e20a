/- Opening a slice of strings that came in. -/
import Derived.Test.YtkmojgdjapfbbaaDoorSl
import Derived.Test.YtkmojgdjapfbbaaDoorProg
import Derived.Deep.Slices
import Derived.Deep.Fields
import Derived.ChangeSame
import Derived.ProofKit
import Derived.OpenShut
namespace Go.Proofs.YtkmojgdjapfbbaaDoor
open Go.ChangeShapes Go.WideShapes Go.ChangeAt Go.RowKit Go.Deep
section
variable {H : Type} {enc : TypeId × Value → H} {P : Program} {w : World} {base : Nat} {spare : Nat → Bool} {held : Bool}
theorem open_slice_one {t e : TypeId} {fuel : Nat} {cs : List Value} {x : DataW H × List MemPlace} (ht : P.underlying t = some (.slice e)) (hC : P.cellsOf e = 1) (h : DataW.trod enc P w base spare held fuel t cs = some x) :
    (cs = [.slice none 0 0]) ∨
    ∃ (a : Addr) (len cap : Nat), cs = [.slice (some a) len cap] ∧ len ≤ cap ∧ cap ≤ maxLen ∧
      ∀ i, i < len → ∃ (v : Value) (y : DataW H × List MemPlace) (n : Nat), w.cell? (a.add i) = some v ∧ DataW.trod enc P w base spare held n e [v] = some y := by
  rcases open_slice ht h with ⟨h0, _⟩ | ⟨a, len, cap, m, n, D, Pl, hcs, hb, hl, hm, hmm, hx, hi⟩
  · exact .inl h0
  · refine .inr ⟨a, len, cap, hcs, hl, hm, fun i him => ?_⟩
    have hle : len ≤ m := by rw [hmm]; split <;> omega
    obtain ⟨cs', hc, ht'⟩ := hi i (by omega)
    rw [hC] at hc
    obtain ⟨_, hcl, hat⟩ := World.cells?_some hc
    have hcell := hat 0 (by omega)
    have hcs1 : cs' = [cs'[0]'(by omega)] := by
      cases cs' with
      | nil => simp at hcl
      | cons v t => cases t with
        | nil => rfl
        | cons _ _ => simp at hcl
    refine ⟨cs'[0]'(by omega), _, n, ?_, by rw [← hcs1]; exact ht'⟩
    rw [Nat.mul_one, List.getElem?_eq_getElem (by omega)] at hcell
    simpa [Addr.add] using hcell
theorem list_of {α : Type} {p : Nat → α → Prop} : ∀ n, (∀ i, i < n → ∃ x, p i x) → ∃ l : List α, l.length = n ∧ ∀ i x, l[i]? = some x → p i x
  | 0, _ => ⟨[], rfl, fun i x h => by simp at h⟩
  | n + 1, h => by
    obtain ⟨l, hl, hp⟩ := list_of n (fun i hi => h i (by omega))
    obtain ⟨x, hx⟩ := h n (by omega)
    refine ⟨l ++ [x], by simp [hl], fun i y hy => ?_⟩
    have hi := (List.getElem?_eq_some_iff.1 hy).1
    simp at hi
    rcases Nat.lt_or_ge i n with h1 | h1
    · rw [List.getElem?_append_left (by omega)] at hy
      exact hp i y hy
    · obtain rfl : i = n := by omega
      rw [List.getElem?_append_right (by omega), hl, Nat.sub_self] at hy
      simp at hy
      subst hy
      exact hx
theorem strs_of {t : TypeId} {A : Option Addr} {len cap : Nat} {d : DataW H} {p : List MemPlace} (ht : P.underlying t = some (.slice 9)) (h9 : P.underlying 9 = some .string) (hC : P.cellsOf 9 = 1) (h : DataW.Trod enc P w base spare held t (.slice A len cap) d p) :
    ∃ fs : List ByteArray, fs.length = len ∧ Sl (fun k => k < w.heap.size) w 1 (.slice A len cap) len (fs.map Value.string) := by
  obtain ⟨fuel, hf⟩ := h
  rcases open_slice_one ht hC hf with h0 | ⟨a, l, c, hcs, hl, hm, hi⟩
  · simp [Value.cells] at h0
    obtain ⟨rfl, rfl, rfl⟩ := h0
    exact ⟨[], rfl, Sl.nil _ _ _ none 0⟩
  · simp [Value.cells] at hcs
    obtain ⟨rfl, rfl, rfl⟩ := hcs
    have hone : ∀ i, i < len → ∃ s : ByteArray, w.cell? (a.add i) = some (.string s) := by
      intro i hil
      obtain ⟨v0, y0, n0, c0, t0⟩ := hi i hil
      obtain ⟨s, e0, _, _⟩ := DataW.trod_string h9 t0
      simp at e0
      subst e0
      exact ⟨s, c0⟩
    obtain ⟨fs, hfl, hF⟩ := list_of len hone
    refine ⟨fs, hfl, by simp [hfl], ?_⟩
    by_cases h0 : len = 0
    · subst h0
      exact .inl ⟨rfl, some a, cap, rfl⟩
    · obtain ⟨b, off, spot⟩ := a
      obtain ⟨s0, hs0⟩ := hone 0 (by omega)
      have hsp : spot = none := by simpa [Addr.add] using World.cell?_spot hs0
      subst hsp
      refine .inr ⟨b, off, cap, rfl, hl, World.block_lt_of_cell? w _ (by simpa [Addr.add] using hs0), World.block_lt_of_cell? w _ (by simpa [Addr.add] using hs0), fun i hil => ?_⟩
      rw [Nat.mul_one] at hil
      obtain ⟨s, hs⟩ : ∃ s, fs[i]? = some s := ⟨_, List.getElem?_eq_getElem (by omega)⟩
      have hc := hF i s hs
      rw [Addr.add_lit] at hc
      rw [List.getElem?_map, hs]
      exact hc
end
end Go.Proofs.YtkmojgdjapfbbaaDoor
