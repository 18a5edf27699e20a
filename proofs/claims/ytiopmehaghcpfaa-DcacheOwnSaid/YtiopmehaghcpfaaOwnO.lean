/- The openers of DcacheOwn's and DcacheDoes's parameters. -/
import Derived.Test.YtiopmehaghcpfaaSdO
namespace Go.Proofs.Ytiopmehaghcpfaa
open Go.RowKit Go.Maps
open Go.ChangeShapes Go.WideShapes Go.ChangeAt Go.Deep
section
variable {H : Type} {enc : TypeId × Value → H} {P : Program} {w : World} {base : Nat} {spare : Nat → Bool} {held : Bool}
theorem six_list {a b c d e f : Value} (l : List Value) (h : l.length = 6) (h0 : (l.drop 0).take 1 = [a]) (h1 : (l.drop 1).take 1 = [b]) (h2 : (l.drop 2).take 1 = [c]) (h3 : (l.drop 3).take 1 = [d]) (h4 : (l.drop 4).take 1 = [e]) (h5 : (l.drop 5).take 1 = [f]) : l = [a, b, c, d, e, f] := by
  match l, h with
  | [a, b, c, d, e, f], _ => simp at h0 h1 h2 h3 h4 h5; rw [h0, h1, h2, h3, h4, h5]
theorem act_cells {fuel : Nat} {cs : List Value} {x : DataW H × List MemPlace} (h : DataW.trod enc Try.prog w base spare held fuel 101 cs = some x) :
    ∃ (kp th : Bool) (d : Int) (nm : ByteArray) (ep mk : Int), 0 ≤ d ∧ d ≤ 255 ∧ (-9223372036854775808 ≤ ep ∧ ep ≤ 9223372036854775807) ∧ (-9223372036854775808 ≤ mk ∧ mk ≤ 9223372036854775807) ∧ cs = [.bool kp, .bool th, .int .u8 d, .string nm, .int .i64 ep, .int .i64 mk] := by
  obtain ⟨xs, m, rfl, _, hl, hx, hi⟩ := DataW.trod_struct Try.underlying101 h
  have h2 : Try.prog.cellsOf 101 = 6 := by kernel_rfl
  have c4 : Try.prog.cellsOf 4 = 1 := by kernel_rfl
  have c5 : Try.prog.cellsOf 5 = 1 := by kernel_rfl
  have c9 : Try.prog.cellsOf 9 = 1 := by kernel_rfl
  have c3 : Try.prog.cellsOf 3 = 1 := by kernel_rfl
  replace hl := hl.trans h2
  have i0 : DataW.trod enc Try.prog w base spare held m 4 ((cs.drop 0).take (Try.prog.cellsOf 4)) = xs[0]? := hi 0 _ rfl
  have i1 : DataW.trod enc Try.prog w base spare held m 4 ((cs.drop 1).take (Try.prog.cellsOf 4)) = xs[1]? := hi 1 _ rfl
  have i2 : DataW.trod enc Try.prog w base spare held m 5 ((cs.drop 2).take (Try.prog.cellsOf 5)) = xs[2]? := hi 2 _ rfl
  have i3 : DataW.trod enc Try.prog w base spare held m 9 ((cs.drop 3).take (Try.prog.cellsOf 9)) = xs[3]? := hi 3 _ rfl
  have i4 : DataW.trod enc Try.prog w base spare held m 3 ((cs.drop 4).take (Try.prog.cellsOf 3)) = xs[4]? := hi 4 _ rfl
  have i5 : DataW.trod enc Try.prog w base spare held m 3 ((cs.drop 5).take (Try.prog.cellsOf 3)) = xs[5]? := hi 5 _ rfl
  rw [c4] at i0 i1
  rw [c5] at i2
  rw [c9] at i3
  rw [c3] at i4 i5
  obtain ⟨x0, x1, x2, x3, x4, x5, rfl⟩ : ∃ x0 x1 x2 x3 x4 x5, xs = [x0, x1, x2, x3, x4, x5] := by
    match xs, hx with
    | [x0, x1, x2, x3, x4, x5], _ => exact ⟨x0, x1, x2, x3, x4, x5, rfl⟩
  obtain ⟨kp, e0, _⟩ := DataW.trod_bool Try.underlying4 i0
  obtain ⟨th, e1, _⟩ := DataW.trod_bool Try.underlying4 i1
  obtain ⟨d, e2, _, w2⟩ := DataW.trod_int Try.underlying5 i2
  obtain ⟨nm, e3, _, _⟩ := DataW.trod_string Try.underlying9 i3
  obtain ⟨ep, e4, _, w4⟩ := DataW.trod_int Try.underlying3 i4
  obtain ⟨mk, e5, _, w5⟩ := DataW.trod_int Try.underlying3 i5
  exact ⟨kp, th, d, nm, ep, mk, (bounds_u8 w2).1, (bounds_u8 w2).2, bounds_i64 w4, bounds_i64 w5, six_list _ hl e0 e1 e2 e3 e4 e5⟩
theorem act_of {fuel : Nat} {v : Value} {x : DataW H × List MemPlace} (h : DataW.trod enc Try.prog w base spare held fuel 101 v.cells.toList = some x) :
    ∃ (kp th : Bool) (d : Int) (nm : ByteArray) (ep mk : Int), 0 ≤ d ∧ d ≤ 255 ∧ v = .agg #[.bool kp, .bool th, .int .u8 d, .string nm, .int .i64 ep, .int .i64 mk] := by
  obtain ⟨kp, th, d, nm, ep, mk, h1, h2, _, _, e⟩ := act_cells h
  clear h
  refine ⟨kp, th, d, nm, ep, mk, h1, h2, ?_⟩
  cases v with
  | agg cs =>
    obtain ⟨l⟩ := cs
    have e' : l = _ := e
    rw [e']
  | _ => cases e
end
end Go.Proofs.Ytiopmehaghcpfaa
