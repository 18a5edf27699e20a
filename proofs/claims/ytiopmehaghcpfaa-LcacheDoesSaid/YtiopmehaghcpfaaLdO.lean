/- LcacheDoes: the opener of its acts. -/
import Derived.Test.YtiopmehaghcpfaaLdW
import Derived.Test.YtiopmehaghcpfaaSdO
namespace Go.Proofs.Ytiopmehaghcpfaa.Ld
open Go.Proofs.Ytiopmehaghcpfaa
open Go.RowKit Go.Maps
open Go.ChangeShapes Go.WideShapes Go.ChangeAt Go.Deep
instance : Inhabited AV := ⟨⟨0, 0, 0, 0⟩⟩
section
variable {H : Type} {enc : TypeId × Value → H} {P : Program} {w : World} {base : Nat} {spare : Nat → Bool} {held : Bool}
theorem larg_of {A : Option Addr} {len cap : Nat} {d : DataW H} {p : List MemPlace} (h : DataW.Trod enc Try.prog w base spare held 105 (.slice A len cap) d p) :
    ∃ F : Nat → AV, LArg w A len F := by
  obtain ⟨fuel, hf⟩ := h
  rcases open_slice_fields Try.underlying105 (show Try.prog.underlying 109 = some (.struct _) from Try.underlying109) (by kernel_rfl) (by kernel_rfl) hf with h0 | ⟨a, l, c, hcs, hl, hm, hi⟩
  · simp [Value.cells] at h0
    obtain ⟨rfl, rfl, rfl⟩ := h0
    exact ⟨fun _ => default, fun h => absurd h (by omega)⟩
  · simp [Value.cells] at hcs
    obtain ⟨rfl, rfl, rfl⟩ := hcs
    have hone : ∀ i, i < len → ∃ x : AV, ((0 ≤ x.kd ∧ x.kd ≤ 255) ∧ (0 ≤ x.d ∧ x.d ≤ 255) ∧ (0 ≤ x.mn ∧ x.mn ≤ 255)) ∧ w.cell? (a.add (i * 4)) = some (.int .u8 x.kd) ∧ w.cell? (a.add (i * 4 + 1)) = some (.int .u8 x.d) ∧ w.cell? (a.add (i * 4 + 2)) = some (.int .i64 x.ep) ∧ w.cell? (a.add (i * 4 + 3)) = some (.int .u8 x.mn) := by
      intro i hil
      have h4 := hi i hil
      obtain ⟨v0, y0, n0, c0, t0⟩ := h4 0 _ rfl
      obtain ⟨v1, y1, n1, c1, t1⟩ := h4 1 _ rfl
      obtain ⟨v2, y2, n2, c2, t2⟩ := h4 2 _ rfl
      obtain ⟨v3, y3, n3, c3, t3⟩ := h4 3 _ rfl
      obtain ⟨x0, e0, _, w0⟩ := DataW.trod_int Try.underlying5 t0
      obtain ⟨x1, e1, _, w1⟩ := DataW.trod_int Try.underlying5 t1
      obtain ⟨x2, e2, _, _⟩ := DataW.trod_int Try.underlying3 t2
      obtain ⟨x3, e3, _, w3⟩ := DataW.trod_int Try.underlying5 t3
      simp at e0 e1 e2 e3
      subst e0 e1 e2 e3
      exact ⟨⟨x0, x1, x2, x3⟩, ⟨bounds_u8 w0, bounds_u8 w1, bounds_u8 w3⟩, c0, c1, c2, c3⟩
    obtain ⟨F, hF⟩ := choose_lt hone
    refine ⟨F, fun hpos => ?_⟩
    obtain ⟨b, off, spot⟩ := a
    have hsp : spot = none := by
      have := (hF 0 hpos).2.1
      simpa [Addr.add] using World.cell?_spot this
    subst hsp
    refine ⟨b, off, rfl, World.block_lt_of_cell? w _ (by simpa [Addr.add] using (hF 0 hpos).2.1), fun i hil => ?_⟩
    obtain ⟨ok, c0, c1, c2, c3⟩ := hF i hil
    refine ⟨ok.1, ok.2.1, ok.2.2, ?_, ?_, ?_, ?_⟩
    · by_cases e : i = 0
      · subst e; simpa [Addr.add] using c0
      · have e4 : i * 4 ≠ 0 := by omega
        simpa [Addr.add, e4, e] using c0
    · simpa [Addr.add, Nat.add_assoc] using c1
    · simpa [Addr.add, Nat.add_assoc] using c2
    · simpa [Addr.add, Nat.add_assoc] using c3
end
end Go.Proofs.Ytiopmehaghcpfaa.Ld
