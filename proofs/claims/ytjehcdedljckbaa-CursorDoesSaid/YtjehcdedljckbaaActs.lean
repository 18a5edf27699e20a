/- How a slice of Act that came in is told to the walk. -/
import Derived.Test.YtjehcdedljckbaaDoesW
import Derived.Deep.Slices
import Derived.Deep.Fields
import Derived.ChangeSame
import Derived.ProofKit
import Derived.OpenShut
namespace Go.Proofs.Ytjehcdedljckbaa
open Go.ChangeShapes Go.WideShapes Go.ChangeAt Go.RowKit Go.Deep

section
variable {H : Type} {enc : TypeId × Value → H} {P : Program} {w : World} {base : Nat} {spare : Nat → Bool} {held : Bool}
theorem open_slice_fields {t e : TypeId} {fs : Array Field} {fuel : Nat} {cs : List Value} {x : DataW H × List MemPlace} (ht : P.underlying t = some (.slice e)) (he : P.underlying e = some (.struct fs))
    (hone : oneCellFields P fs = true) (hC : P.cellsOf e = fs.size) (h : DataW.trod enc P w base spare held fuel t cs = some x) :
    (cs = [.slice none 0 0]) ∨
    ∃ (a : Addr) (len cap : Nat), cs = [.slice (some a) len cap] ∧ len ≤ cap ∧ cap ≤ maxLen ∧
      ∀ i, i < len → ∀ (j : Nat) (f : Field), fs[j]? = some f → ∃ (v : Value) (y : DataW H × List MemPlace) (n : Nat), w.cell? (a.add (i * fs.size + j)) = some v ∧ DataW.trod enc P w base spare held n f.type [v] = some y := by
  rcases open_slice ht h with ⟨h0, _⟩ | ⟨a, len, cap, m, n, D, Pl, hcs, hb, hl, hm, hmm, hx, hi⟩
  · exact .inl h0
  · refine .inr ⟨a, len, cap, hcs, hl, hm, fun i him j f hj => ?_⟩
    have hle : len ≤ m := by rw [hmm]; split <;> omega
    obtain ⟨cs', hc, ht'⟩ := hi i (by omega)
    rw [hC] at hc
    obtain ⟨ys, n', hn', hy, hlen, hyl, hf⟩ := DataW.trod_struct he ht'
    obtain ⟨_, hcl, hat⟩ := World.cells?_some hc
    obtain ⟨ho, hk⟩ := hone_of hone j f hj
    have hjl : j < fs.size := (Array.getElem?_eq_some_iff.1 hj).1
    have hcell := hat j hjl
    have hv : cs'[j]? = some (cs'[j]'(by omega)) := List.getElem?_eq_getElem (by omega)
    have h1 := hf j f hj
    rw [ho, hk] at h1
    have hone' : (cs'.drop j).take 1 = [cs'[j]'(by omega)] := by
      rw [List.drop_eq_getElem_cons (by omega)]
      rfl
    rw [hone'] at h1
    have hys : ys[j]? = some (ys[j]'(by omega)) := List.getElem?_eq_getElem (by omega)
    refine ⟨_, _, _, ?_, h1.trans hys⟩
    rw [← Go.Deep.add_add, hcell, hv]
instance : Inhabited Ac := ⟨⟨0, 0, 0, ByteArray.empty⟩⟩
theorem acts_of {A : Option Addr} {len cap : Nat} {d : DataW H} {p : List MemPlace} (h : DataW.Trod enc Try.prog w base spare held 31 (.slice A len cap) d p) :
    ∃ F : Nat → Ac, Acts w A len F ∧ len ≤ 9223372036854775807 := by
  obtain ⟨fuel, hf⟩ := h
  rcases open_slice_fields Try.underlying31 (show Try.prog.underlying 35 = some (.struct _) from Try.underlying35) (by kernel_rfl) (by kernel_rfl) hf with h0 | ⟨a, l, c, hcs, hl, hm, hi⟩
  · simp [Value.cells] at h0
    obtain ⟨rfl, rfl, rfl⟩ := h0
    exact ⟨fun _ => ⟨0, 0, 0, ByteArray.empty⟩, fun h => absurd h (by omega), by omega⟩
  · simp [Value.cells] at hcs
    obtain ⟨rfl, rfl, rfl⟩ := hcs
    have hone : ∀ i, i < len → ∃ x : Ac, AcOk x ∧ w.cell? (a.add (i * 4)) = some (.int .u8 x.kind) ∧ w.cell? (a.add (i * 4 + 1)) = some (.int .i64 x.id) ∧ w.cell? (a.add (i * 4 + 2)) = some (.int .u16 x.n) ∧ w.cell? (a.add (i * 4 + 3)) = some (.string x.dir) := by
      intro i hil
      have h4 := hi i hil
      obtain ⟨v0, y0, n0, c0, t0⟩ := h4 0 _ rfl
      obtain ⟨v1, y1, n1, c1, t1⟩ := h4 1 _ rfl
      obtain ⟨v2, y2, n2, c2, t2⟩ := h4 2 _ rfl
      obtain ⟨v3, y3, n3, c3, t3⟩ := h4 3 _ rfl
      obtain ⟨x0, e0, _, w0⟩ := DataW.trod_int Try.underlying5 t0
      obtain ⟨x1, e1, _, w1⟩ := DataW.trod_int Try.underlying3 t1
      obtain ⟨x2, e2, _, w2⟩ := DataW.trod_int Try.underlying33 t2
      obtain ⟨x3, e3, _, _⟩ := DataW.trod_string Try.underlying9 t3
      simp at e0 e1 e2 e3
      subst e0 e1 e2 e3
      have b0 := bounds_u8 w0
      have b2 := bounds_u16 w2
      exact ⟨⟨x0, x1, x2, x3⟩, ⟨b0.1, b0.2, w1, b2.1, b2.2⟩, c0, c1, c2, c3⟩
    obtain ⟨F, hF⟩ := choose_lt (α := Ac) hone
    refine ⟨F, fun hpos => ?_, by unfold maxLen at hm; omega⟩
    obtain ⟨b, off, spot⟩ := a
    have hsp : spot = none := by
      have := (hF 0 hpos).2.1
      simpa [Addr.add] using World.cell?_spot this
    subst hsp
    refine ⟨b, off, rfl, World.block_lt_of_cell? w _ (by simpa [Addr.add] using (hF 0 hpos).2.1), fun i hil => ?_⟩
    obtain ⟨ok, c0, c1, c2, c3⟩ := hF i hil
    refine ⟨ok, ?_, ?_, ?_, ?_⟩
    · by_cases e : i = 0
      · subst e; simpa [Addr.add] using c0
      · have e4 : i * 4 ≠ 0 := by omega
        simpa [Addr.add, e4, e] using c0
    · simpa [Addr.add, Nat.add_assoc] using c1
    · simpa [Addr.add, Nat.add_assoc] using c2
    · simpa [Addr.add, Nat.add_assoc] using c3
end
end Go.Proofs.Ytjehcdedljckbaa
