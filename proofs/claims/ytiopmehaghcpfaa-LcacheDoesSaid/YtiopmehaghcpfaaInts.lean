/- How a slice of integers that came in is told to the walk. -/
import Derived.Test.YtiopmehaghcpfaaLruP
import Derived.Test.YtiopmehaghcpfaaProg
import Derived.Deep.Slices
import Derived.Deep.Fields
import Derived.ChangeSame
import Derived.ProofKit
import Derived.OpenShut
namespace Go.Proofs.Ytiopmehaghcpfaa
open Go.ChangeShapes Go.WideShapes Go.ChangeAt Go.RowKit Go.Deep

/-- A slice of integers, known cell by cell. -/
def Ints (w : World) (A : Option Addr) (n : Nat) (F : Nat → Int) : Prop :=
  0 < n → ∃ b off, A = some ⟨b, off, none⟩ ∧ b < w.heap.size ∧ ∀ i, i < n → -9223372036854775808 ≤ F i ∧ F i ≤ 9223372036854775807 ∧ w.cell? ⟨b, off + i, none⟩ = some (.int .i64 (F i))

theorem choose_lt {α : Type} [Inhabited α] {n : Nat} {p : Nat → α → Prop} (h : ∀ i, i < n → ∃ x, p i x) : ∃ F : Nat → α, ∀ i, i < n → p i (F i) :=
  ⟨fun i => if hi : i < n then (h i hi).choose else default, fun i hi => by simp only [dif_pos hi]; exact (h i hi).choose_spec⟩

section
variable {H : Type} {enc : TypeId × Value → H} {P : Program} {w : World} {base : Nat} {spare : Nat → Bool} {held : Bool}
theorem open_slice_one {t e : TypeId} {fuel : Nat} {cs : List Value} {x : DataW H × List MemPlace} (ht : P.underlying t = some (.slice e)) (hC : P.cellsOf e = 1) (h : DataW.trod enc P w base spare held fuel t cs = some x) :
    (cs = [.slice none 0 0]) ∨
    ∃ (a : Addr) (len cap : Nat), cs = [.slice (some a) len cap] ∧ len ≤ cap ∧ cap ≤ maxLen ∧
      ∀ i, i < len → ∃ (v : Value) (y : DataW H × List MemPlace) (n : Nat), w.cell? (a.add i) = some v ∧ DataW.trod enc P w base spare held n e [v] = some y := by
  rcases open_slice ht h with ⟨h0, _⟩ | ⟨a, len, cap, m, n, D, Pl, hcs, hb, hl, hm, hmm, hx, hi⟩
  · exact .inl h0
  · refine .inr ⟨a, len, cap, hcs, hl, hm, fun i him => ?_⟩
    have hle : len ≤ m := by rw [hmm]; split <;> omega
    obtain ⟨cs', hc, ht'⟩ := hi i (by omega)
    rw [hC] at hc
    obtain ⟨_, hcl, hat⟩ := World.cells?_some hc
    have hcell := hat 0 (by omega)
    have hcs1 : cs' = [cs'[0]'(by omega)] := by
      cases cs' with
      | nil => simp at hcl
      | cons v t => cases t with
        | nil => rfl
        | cons _ _ => simp at hcl
    refine ⟨cs'[0]'(by omega), _, n, ?_, by rw [← hcs1]; exact ht'⟩
    rw [Nat.mul_one, List.getElem?_eq_getElem (by omega)] at hcell
    simpa [Addr.add] using hcell
theorem ints_of {A : Option Addr} {len cap : Nat} {d : DataW H} {p : List MemPlace} (h : DataW.Trod enc Try.prog w base spare held 22 (.slice A len cap) d p) :
    ∃ F : Nat → Int, Ints w A len F ∧ len ≤ 9223372036854775807 := by
  obtain ⟨fuel, hf⟩ := h
  rcases open_slice_one Try.underlying22 (by kernel_rfl) hf with h0 | ⟨a, l, c, hcs, hl, hm, hi⟩
  · simp [Value.cells] at h0
    obtain ⟨rfl, rfl, rfl⟩ := h0
    exact ⟨fun _ => 0, fun h => absurd h (by omega), by omega⟩
  · simp [Value.cells] at hcs
    obtain ⟨rfl, rfl, rfl⟩ := hcs
    have hone : ∀ i, i < len → ∃ x : Int, (-9223372036854775808 ≤ x ∧ x ≤ 9223372036854775807) ∧ w.cell? (a.add i) = some (.int .i64 x) := by
      intro i hil
      obtain ⟨v0, y0, n0, c0, t0⟩ := hi i hil
      obtain ⟨x0, e0, _, w0⟩ := DataW.trod_int Try.underlying3 t0
      simp at e0
      subst e0
      exact ⟨x0, bounds_i64 w0, c0⟩
    obtain ⟨F, hF⟩ := choose_lt hone
    refine ⟨F, fun hpos => ?_, by unfold maxLen at hm; omega⟩
    obtain ⟨b, off, spot⟩ := a
    have hsp : spot = none := by
      have := (hF 0 hpos).2
      simpa [Addr.add] using World.cell?_spot this
    subst hsp
    refine ⟨b, off, rfl, World.block_lt_of_cell? w _ (by simpa [Addr.add] using (hF 0 hpos).2), fun i hil => ?_⟩
    obtain ⟨ok, c0⟩ := hF i hil
    refine ⟨ok.1, ok.2, ?_⟩
    by_cases e : i = 0
    · subst e; simpa [Addr.add] using c0
    · simpa [Addr.add, e] using c0
end
end Go.Proofs.Ytiopmehaghcpfaa
