/- socagelaw16.speaks. Printed by mac.py from Spk16.src. -/
import Derived.Test.YtiopmehaghcpfaaOnceP
namespace Go.Proofs.Ytiopmehaghcpfaa.L
open Go.Proofs.Ytiopmehaghcpfaa
open Go.RowKit Go.Maps
set_option linter.unusedSimpArgs false
set_option linter.unusedVariables false
attribute [local go_sem ↓] run_max_int run_min_int

theorem useL_one (k : ByteArray) (x y : Pay) : useL k x [(k, y)] = [(k, x)] := by unfold useL; simp
theorem row1_shape {w : World} {b m : Nat} {A : Option Addr} {c : Nat} {xs : List Value} (h : w.ownsRow b 83 2 (.slice A m c) m xs) (hm : 0 < m) : ∃ r, A = some ⟨r, 0, none⟩ := by
  rcases h.2 with ⟨e, _⟩ | ⟨r, cap, cur, e, _⟩
  · cases e; omega
  · cases e; exact ⟨r, rfl⟩
theorem row_new83 (s : ByteArray) (m : Int) (B : Nat) (W : World) (hB : B ≤ W.heap.size) : (W.alloc (.cells #[.string s, .int .i64 m] 83)).ownsRow B 83 2 (.slice (some ⟨W.heap.size, 0, none⟩) 1 1) 1 [.string s, .int .i64 m] :=
  ⟨rfl, .inr ⟨W.heap.size, 1, #[.string s, .int .i64 m], rfl, hB, Blk.new W 83 #[.string s, .int .i64 m], Nat.le_refl _, by decide, rfl, rfl⟩⟩
theorem one_calls (w0 W : World) (g gs n : Nat) (r made : Int) (vs : Value) (G : Nat → Nat) (V : Nat → Value) (Ls : Nat → PL) (h : Lc w0 W g gs n r made vs G V Ls) :
    Calls Try.prog 81 #[] W (MakesIs w0 g gs n r made vs G V Ls 1 [.string sa, .int .i64 1] (fun W W' => Below W.heap.size W W') W) := by
  have H := Av.mk h
  clear h
  go_enter Try.func81, Try.ntmps81
  go_wp2
  go_ret
  have hb := below_alloc (Below.refl _ W) (.cells #[.string sa, .int .i64 1] 83)
  exact ⟨_, 1, rfl, row_new83 sa 1 _ W (Nat.le_refl _), H.out.grow hb, hb⟩

set_option maxRecDepth 100000 in
set_option maxHeartbeats 4000000 in
theorem speaks16 (w : World) : Calls Try.prog 46 #[] w (RetB (.bool true) w) := by
  have HN := Av.mk (new_L 2 2 2 (by decide) (by decide) (by decide) w w (Below.refl _ w))
  go_enter Try.func46, Try.ntmps46
  go_wp2_with fail
  refine HN.out.mono ?_
  rintro e w1 ⟨g, vs, G, V, rfl, _, hd, hb⟩
  have HD := Av.mk (show Lc w w1 g w.heap.size 2 2 0 vs G V (fun _ => []) from hd)
  obtain ⟨i, hi⟩ : ∃ i, shd 2 sl = i := ⟨_, rfl⟩
  have hil : i < 2 := by rw [← hi]; exact shd_lt (by decide) _
  have HI := Av.mk hi
  clear hd hb HN hi
  have HT := Av.mk (take_miss w w1 g w.heap.size 2 2 0 vs G V (fun _ => []) HD.out (by decide) (by decide) (by decide) (by decide) sl (by decide) i HI.out ⟨0, none, 0, 0⟩ [] [] false 1
    (getIs_not 2 [] sl (by decide) (by simp)) (getIs_not 2 [] sl (by decide) (by simp)) (.inl rfl) (fun A c => [(sl, ⟨1, A, 1, c⟩)]) 1 (fun A c => ⟨_, _, putIs_fits 2 [] sl _ (by simp) (by decide) (by decide)⟩) [.string sa, .int .i64 1] (by simp [Value.oneCell']) (by decide)
    81 #[] (fun W W' => Below W.heap.size W W') (fun W W' h => h.size) enter81 (fun W _ hW => one_calls w W _ _ _ _ _ _ _ _ _ hW))
  go_wp2_with fail
  refine HT.out.mono ?_
  rintro e w2 ⟨A0, c0, A, c, V2, W, W', rfl, _, hr2, _, hd2, _, _, _, _⟩
  have HD2 := Av.mk hd2
  have HR2 := Av.mk hr2
  have hg : GetIs 2 (up (fun _ => ([] : PL)) i [(sl, ⟨1, A, 1, c⟩)] i) sl [(sl, ⟨1, A, 1, c⟩)] ⟨1, A, 1, c⟩ true := by
    rw [up_same]
    have := getIs_hit 2 [(sl, ⟨1, A, 1, c⟩)] sl ⟨1, A, 1, c⟩ (by simp) (by simp) (by simp)
    rwa [useL_one] at this
  have HG := Av.mk hg
  have HH := Av.mk (take_hit w w2 g w.heap.size 2 2 (0 + 1) vs G V2 _ HD2.out (by decide) (by decide) sl (by decide) i HI.out ⟨1, A, 1, c⟩ [(sl, ⟨1, A, 1, c⟩)] HG.out W'.heap.size [.string sa, .int .i64 1] HR2.out (by simp [Value.oneCell']) (by simp) (.func (.func 81) #[] #[]))
  clear hr2 hd2 hg HT HD
  go_wp2_with fail
  refine HH.out.mono ?_
  rintro e w3 ⟨A3, c3, rfl, hr3, hd3, _⟩
  obtain ⟨r3, rfl⟩ := row1_shape hr3 (by simp)
  rw [up_up] at hd3
  have HD3 := Av.mk hd3
  have HR3 := Av.mk hr3
  clear hr3 hd3 HH HD2 HR2
  have HL := Av.mk (look_miss w w3 g w.heap.size 2 2 (0 + 1) vs G V2 _ HD3.out (by decide) (by decide) sl (by decide) i HI.out ⟨1, A, 1, c⟩ [(sl, ⟨1, A, 1, c⟩)] true 2 HG.out (.inr (by simp)))
  go_wp2_with fail
  refine HL.out.mono ?_
  rintro e w4 ⟨rfl, hd4, k4⟩
  rw [up_up] at hd4
  have HR4 := Av.mk (HD3.out.row83 hil k4 HR3.out)
  have hm : most (fun j => (up (fun _ => ([] : PL)) i [(sl, ⟨1, A, 1, c⟩)] j).length) 2 = 1 := by
    have : i = 0 ∨ i = 1 := by omega
    rcases this with rfl | rfl <;> simp [most, up]
  have hmo := most_L hd4 (by decide)
  rw [hm] at hmo
  have HM := Av.mk hmo
  have HMA := Av.mk (made_L hd4)
  have HBE := Av.mk hd4.below
  have y0 : w4.cell? ⟨r3, 0, none⟩ = some (.string sa) := by have := HR4.out.cellAt 0 (by decide); simpa using this
  clear hd4 k4 hm hmo HL HD3 HR3 HR4 HG
  go_wp2_with fail
  refine HMA.out.mono ?_
  rintro e _ ⟨rfl, rfl⟩
  go_wp2_with fail
  refine HM.out.mono ?_
  rintro e _ ⟨rfl, rfl⟩
  go_wp2
  go_ret
  exact ⟨rfl, HBE.out⟩
end Go.Proofs.Ytiopmehaghcpfaa.L
