/- socagelaw18.speaks answers true. -/
import Derived.Test.YtjehcdedljckbaaCur
namespace Go.Proofs.Ytjehcdedljckbaa
open Go.RowKit Go.Maps
attribute [local go_sem ↓] run_max_int run_min_int

theorem has_nil (k : Lit) : Maps.has (.map [] : DataW Cr) k = false := rfl
theorem wf64 {a : Int} (h1 : -9223372036854775808 ≤ a) (h2 : a ≤ 9223372036854775807) : (Lit.int .i64 a).wf = true := WalkArith.wf_i64 ⟨h1, h2⟩
theorem below_then {B : Nat} {w w1 w2 : World} (h : Below B w w1) (hB : B ≤ w1.heap.size) (k : Below w1.heap.size w1 w2) : Below B w w2 :=
  h.trans ⟨k.os, k.tape, k.output, k.size, fun i hi => k.block i (Nat.lt_of_lt_of_le hi hB)⟩
theorem below_keep {B : Nat} {w w1 w2 : World} {S : Nat → Prop} (h : Below B w w1) (hB : B ≤ w1.heap.size) (k : Keep S w1 w2) (hS : ∀ k, S k → B ≤ k) : Below B w w2 :=
  h.trans (k.below hB hS)

set_option maxHeartbeats 400000 in
theorem speaks_calls (w : World) : Calls Try.prog 6 #[] w (RetB (.bool true) w) := by
  go_enter Try.func6, Try.ntmps6
  go_wp2_with fail
  refine (New_calls 1 w).mono ?_
  rintro e w1 ⟨g, bm, rfl, hg, hbm, h1, hB1⟩
  have H1 := Av.mk h1
  have HB1 := Av.mk hB1
  clear h1 hB1
  go_wp2_with fail
  refine (Open_yes g _ 0 bm 0 _ 5 _ w1 H1.out (by decide) (by omega) (by omega) (by decide)).mono ?_
  rintro e w2 ⟨rfl, h2, k2⟩
  have H2 := Av.mk h2
  have HB2 := Av.mk (below_keep HB1.out HB1.out.size k2 (by rintro k (rfl | rfl) <;> assumption))
  clear h2 k2
  go_wp2_with fail
  refine (Open_no g _ _ bm _ _ 5 _ w2 H2.out (by decide)).mono ?_
  rintro e w3 ⟨rfl, hb⟩
  have H3 := Av.mk (H2.out.keep (Keep.of_below (S := fun _ => False) hb) (by simp) (by simp))
  have HB3 := Av.mk (below_then HB2.out HB2.out.size hb)
  clear hb
  go_wp2_with fail
  refine (Close_yes g _ _ bm _ _ 1 w3 H3.out (by decide) (by rfl)).mono ?_
  rintro e w4 ⟨rfl, h4, k4⟩
  have H4 := Av.mk h4
  have HB4 := Av.mk (below_keep HB3.out HB3.out.size k4 (by rintro k (rfl | rfl) <;> assumption))
  clear h4 k4
  go_wp2_with fail
  refine (Open_yes g _ _ bm _ _ 6 _ w4 H4.out (by decide) (by omega) (by omega) (by decide)).mono ?_
  rintro e w5 ⟨rfl, h5, k5⟩
  have H5 := Av.mk h5
  have HB5 := Av.mk (below_keep HB4.out HB4.out.size k5 (by rintro k (rfl | rfl) <;> assumption))
  clear h5 k5
  go_wp2_with fail
  refine (Close_no g _ _ bm _ _ 1 w5 H5.out (by decide) (by rfl)).mono ?_
  rintro e w6 ⟨rfl, hb⟩
  have H6 := Av.mk (H5.out.keep (Keep.of_below (S := fun _ => False) hb) (by simp) (by simp))
  have HB6 := Av.mk (below_then HB5.out HB5.out.size hb)
  clear hb
  go_wp2_with fail
  refine (Len_calls g _ _ bm _ _ w6 H6.out).mono ?_
  rintro e w7 ⟨rfl, rfl⟩
  have hs : Maps.size (((DataW.map []).put (iOf (0 + 1)) (DataW.held ((5, { data := #[47, 97] }, 0) : Cr))).del (iOf 1) |>.put (iOf (0 + 1 + 1)) (DataW.held (6, { data := #[47] }, 0))) = 1 := by rfl
  rw [hs]
  go_wp2
  go_ret
  exact ⟨rfl, HB6.out⟩

end Go.Proofs.Ytjehcdedljckbaa
