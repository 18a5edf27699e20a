/- The openers of ShardDoes's parameters. -/
import Derived.Test.YtiopmehaghcpfaaDoesP
import Derived.OpenShut
namespace Go.Proofs.Ytiopmehaghcpfaa
open Go.RowKit Go.Maps
open Go.ChangeShapes Go.WideShapes Go.ChangeAt Go.Deep
section
variable {H : Type} {enc : TypeId × Value → H} {P : Program} {w : World} {base : Nat} {spare : Nat → Bool} {held : Bool}
theorem acs_of89 {A : Option Addr} {len cap : Nat} {d : DataW H} {p : List MemPlace} (h : DataW.Trod enc Try.prog w base spare held 89 (.slice A len cap) d p) :
    ∃ F : Nat → ByteArray × Int, Acs w A len F ∧ len ≤ 9223372036854775807 := by
  obtain ⟨fuel, hf⟩ := h
  rcases open_slice_fields Try.underlying89 (show Try.prog.underlying 91 = some (.struct _) from Try.underlying91) (by kernel_rfl) (by kernel_rfl) hf with h0 | ⟨a, l, c, hcs, hl, hm, hi⟩
  · simp [Value.cells] at h0
    obtain ⟨rfl, rfl, rfl⟩ := h0
    exact ⟨fun _ => (⟨#[]⟩, 0), fun h => absurd h (by omega), by omega⟩
  · simp [Value.cells] at hcs
    obtain ⟨rfl, rfl, rfl⟩ := hcs
    have hone : ∀ i, i < len → ∃ x : ByteArray × Int, (-9223372036854775808 ≤ x.2 ∧ x.2 ≤ 9223372036854775807) ∧ w.cell? (a.add (i * 2)) = some (.string x.1) ∧ w.cell? (a.add (i * 2 + 1)) = some (.int .i64 x.2) := by
      intro i hil
      have h4 := hi i hil
      obtain ⟨v0, y0, n0, c0, t0⟩ := h4 0 _ rfl
      obtain ⟨v1, y1, n1, c1, t1⟩ := h4 1 _ rfl
      obtain ⟨x0, e0, _, _⟩ := DataW.trod_string Try.underlying9 t0
      obtain ⟨x1, e1, _, w1⟩ := DataW.trod_int Try.underlying3 t1
      simp at e0 e1
      subst e0 e1
      exact ⟨(x0, x1), bounds_i64 w1, c0, c1⟩
    obtain ⟨F, hF⟩ := choose_lt hone
    refine ⟨F, fun hpos => ?_, by unfold maxLen at hm; omega⟩
    obtain ⟨b, off, spot⟩ := a
    have hsp : spot = none := by
      have := (hF 0 hpos).2.1
      simpa [Addr.add] using World.cell?_spot this
    subst hsp
    refine ⟨b, off, rfl, World.block_lt_of_cell? w _ (by simpa [Addr.add] using (hF 0 hpos).2.1), fun i hil => ?_⟩
    obtain ⟨ok, c0, c1⟩ := hF i hil
    refine ⟨ok, ?_, ?_⟩
    · by_cases e : i = 0
      · subst e; simpa [Addr.add] using c0
      · have e4 : i * 2 ≠ 0 := by omega
        simpa [Addr.add, e4, e] using c0
    · simpa [Addr.add, Nat.add_assoc] using c1
theorem two_list {x y : Value} (l : List Value) (h : l.length = 2) (h0 : (l.drop (0 * 1)).take 1 = [x]) (h1 : (l.drop (1 * 1)).take 1 = [y]) : l = [x, y] := by
  match l, h with
  | [a, b], _ => simp at h0 h1; rw [h0, h1]
theorem arr_of {fuel : Nat} {v : Value} {x : DataW H × List MemPlace} (h : DataW.trod enc Try.prog w base spare held fuel 88 v.cells.toList = some x) : ∃ a b : Int, v = .agg #[.int .i64 a, .int .i64 b] := by
  obtain ⟨xs, m, rfl, _, hl, hx, hi⟩ := DataW.trod_array Try.underlying88 h
  have h2 : Try.prog.cellsOf 88 = 2 := by kernel_rfl
  have h1 : Try.prog.cellsOf 3 = 1 := by kernel_rfl
  replace hl := hl.trans h2
  have i0 := hi 0 (by decide)
  have i1 := hi 1 (by decide)
  simp only [h1] at i0 i1
  obtain ⟨x0, x1, rfl⟩ : ∃ x0 x1, xs = [x0, x1] := by
    match xs, hx with
    | [x0, x1], _ => exact ⟨x0, x1, rfl⟩
  obtain ⟨a, ea, _, _⟩ := DataW.trod_int Try.underlying3 i0
  obtain ⟨b, eb, _, _⟩ := DataW.trod_int Try.underlying3 i1
  have e := two_list v.cells.toList hl ea eb
  clear hl ea eb hi i0 i1 h h1 h2 hx
  refine ⟨a, b, ?_⟩
  cases v with
  | agg cs =>
    obtain ⟨l⟩ := cs
    have e' : l = [.int .i64 a, .int .i64 b] := e
    rw [e']
  | _ => cases e
end
end Go.Proofs.Ytiopmehaghcpfaa
