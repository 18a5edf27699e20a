/- LcacheOnce: the opener of its slice of bytes. -/
import Derived.Test.YtiopmehaghcpfaaInts
namespace Go.Proofs.Ytiopmehaghcpfaa
open Go.ChangeShapes Go.WideShapes Go.ChangeAt Go.RowKit Go.Deep
/-- A slice of bytes, known cell by cell. -/
def U8s (w : World) (A : Option Addr) (n : Nat) (F : Nat → Int) : Prop :=
  0 < n → ∃ b off, A = some ⟨b, off, none⟩ ∧ b < w.heap.size ∧ ∀ i, i < n → 0 ≤ F i ∧ F i ≤ 255 ∧ w.cell? ⟨b, off + i, none⟩ = some (.int .u8 (F i))
section
variable {H : Type} {enc : TypeId × Value → H} {P : Program} {w : World} {base : Nat} {spare : Nat → Bool} {held : Bool}
theorem u8s_of {A : Option Addr} {len cap : Nat} {d : DataW H} {p : List MemPlace} (h : DataW.Trod enc Try.prog w base spare held 93 (.slice A len cap) d p) :
    ∃ F : Nat → Int, U8s w A len F ∧ len ≤ 9223372036854775807 := by
  obtain ⟨fuel, hf⟩ := h
  rcases open_slice_one Try.underlying93 (by kernel_rfl) hf with h0 | ⟨a, l, c, hcs, hl, hm, hi⟩
  · simp [Value.cells] at h0
    obtain ⟨rfl, rfl, rfl⟩ := h0
    exact ⟨fun _ => 0, fun h => absurd h (by omega), by omega⟩
  · simp [Value.cells] at hcs
    obtain ⟨rfl, rfl, rfl⟩ := hcs
    have hone : ∀ i, i < len → ∃ x : Int, (0 ≤ x ∧ x ≤ 255) ∧ w.cell? (a.add i) = some (.int .u8 x) := by
      intro i hil
      obtain ⟨v0, y0, n0, c0, t0⟩ := hi i hil
      obtain ⟨x0, e0, _, w0⟩ := DataW.trod_int Try.underlying5 t0
      simp at e0
      subst e0
      exact ⟨x0, bounds_u8 w0, c0⟩
    obtain ⟨F, hF⟩ := choose_lt hone
    refine ⟨F, fun hpos => ?_, by unfold maxLen at hm; omega⟩
    obtain ⟨b, off, spot⟩ := a
    have hsp : spot = none := by
      have := (hF 0 hpos).2
      simpa [Addr.add] using World.cell?_spot this
    subst hsp
    refine ⟨b, off, rfl, World.block_lt_of_cell? w _ (by simpa [Addr.add] using (hF 0 hpos).2), fun i hil => ?_⟩
    obtain ⟨ok, c0⟩ := hF i hil
    refine ⟨ok.1, ok.2, ?_⟩
    by_cases e : i = 0
    · subst e; simpa [Addr.add] using c0
    · simpa [Addr.add, e] using c0
end
end Go.Proofs.Ytiopmehaghcpfaa
