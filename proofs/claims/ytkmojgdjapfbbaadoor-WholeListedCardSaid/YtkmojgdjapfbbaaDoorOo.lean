/- socageref04.One. -/
import Derived.Test.YtkmojgdjapfbbaaDoorOe
namespace Go.Proofs.YtkmojgdjapfbbaaDoor
open Go.RowKit Go.Maps
set_option linter.unusedSimpArgs false
set_option linter.unusedVariables false

set_option maxRecDepth 100000 in
set_option maxHeartbeats 4000000 in
theorem one_calls {B : Nat → Prop} {w : World} {p : NV} {t : T} (h : Rep B w p t) (hz : Sz t) : Calls Tryd.prog 75 #[nodeV p t] w (RetB (.bool t.one) w) := by
  have hex := h.exts
  obtain ⟨_, hl1, hl2, hl3, hs, hx, hg, _⟩ := hz
  have HEN := Av.mk (fun (w' : World) (h : Rep B w' p t) => entries_calls h hl1 hl2 hs)
  have H := Av.mk h
  obtain ⟨An, cn, Ai, ci, Ae, ce, rfl⟩ := h.parts
  obtain ⟨k, o, ns, its, sz, ex, tg⟩ := t
  have HR := Av.mk (T.one_node k o ns its sz ex tg)
  obtain ⟨nb, hnb⟩ : ∃ b, T.noneB (.node k o ns its sz ex tg) = b := ⟨_, rfl⟩
  obtain ⟨eb, heb⟩ : ∃ b, T.emptyB (.node k o ns its sz ex tg) = b := ⟨_, rfl⟩
  rw [hnb, heb] at HR
  generalize T.one (.node k o ns its sz ex tg) = R at *
  generalize T.namesOk (.node k o ns its sz ex tg) = nmo at *
  simp only [T.names, T.items, T.exts, T.target, T.kind, T.size] at hl1 hl2 hl3 hs hx hg hex
  unfold T.noneB at hnb
  unfold T.emptyB at heb
  simp only [T.names, T.items, T.exts, T.target, T.kind, T.size, T.opq] at hnb heb
  have HNB := Av.mk hnb
  have HEB := Av.mk heb
  have HSX := Av.mk (nsplit_calls tg)
  clear h hs hx hnb heb
  show Calls Tryd.prog 75 #[.agg #[.int .i64 k, .bool o, .slice An ns.length cn, .slice Ai its.length ci, .int .i64 sz, .slice Ae ex.length ce, .string tg]] w _
  go_enter Tryd.func75, Tryd.ntmps75
  go_upto_region 1 with (fail)
  have X := Av.mk (Blk.new w 33 #[.int .i64 k, .bool o, .slice An ns.length cn, .slice Ai its.length ci, .int .i64 sz, .slice Ae ex.length ce, .string tg])
  have hb0 := below_alloc (Below.refl _ w) (.cells #[.int .i64 k, .bool o, .slice An ns.length cn, .slice Ai its.length ci, .int .i64 sz, .slice Ae ex.length ce, .string tg] 33)
  have HX1 := Av.mk (H.out.grow hb0)
  have HS := Av.mk (hex.grow hb0)
  have HB : Av (Bel w (w.alloc (.cells #[.int .i64 k, .bool o, .slice An ns.length cn, .slice Ai its.length ci, .int .i64 sz, .slice Ae ex.length ce, .string tg] 33))) := ⟨hb0⟩
  clear hex hb0 H
  generalize w.alloc (.cells #[.int .i64 k, .bool o, .slice An ns.length cn, .slice Ai its.length ci, .int .i64 sz, .slice Ae ex.length ce, .string tg] 33) = w1 at *
  generalize w.heap.size = g at *
  have c0 := X.out.cell 0; have c1 := X.out.cell 1; have c2 := X.out.cell 2; have c3 := X.out.cell 3; have c4 := X.out.cell 4; have c5 := X.out.cell 5; have c6 := X.out.cell 6
  have lx := X.out.lt
  simp at c0 c1 c2 c3 c4 c5 c6
  go_cut [3] (fun s3 wx => s3 = .bool nb ∧ wx = w1)
  case first =>
    by_cases ho : o = true
    · subst ho
      have HV : Av (nb = false) := ⟨by rw [← HNB.out]; rfl⟩
      go_wp2_with fail
      go_meet
      exact ⟨by rw [HV.out], rfl⟩
    · have ho : o = false := by simpa using ho
      subst ho
      by_cases h1 : ns.length = 0
      · by_cases h2 : its.length = 0
        · have HV : Av (nb = true) := ⟨by rw [← HNB.out]; simp [h1, h2]⟩
          have t1 : ((ns.length : Int) == 0) = true := by rw [h1]; rfl
          have t2 : ((its.length : Int) == 0) = true := by rw [h2]; rfl
          clear h1 h2
          go_wp2_with fail
          go_meet
          exact ⟨by rw [HV.out], rfl⟩
        · have HV : Av (nb = false) := ⟨by rw [← HNB.out]; simp [h1, h2]⟩
          have t1 : ((ns.length : Int) == 0) = true := by rw [h1]; rfl
          have t2 : ((its.length : Int) == 0) = false := by simpa using h2
          clear h1 h2
          go_wp2_with fail
          go_meet
          exact ⟨by rw [HV.out], rfl⟩
      · have HV : Av (nb = false) := ⟨by rw [← HNB.out]; simp [h1]⟩
        have t1 : ((ns.length : Int) == 0) = false := by simpa using h1
        clear h1
        go_wp2_with fail
        go_meet
        exact ⟨by rw [HV.out], rfl⟩
  case rest =>
    obtain ⟨rfl, rfl⟩ := hcut
    clear HNB
    go_upto_region 2 with (fail)
    go_cut [4] (fun s4 wx => s4 = .bool eb ∧ wx = wc)
    case first =>
      by_cases h1 : sz = 0
      · by_cases h2 : ex.length = 0
        · have HV : Av (eb = true) := ⟨by rw [← HEB.out]; simp [h1, h2]⟩
          have t1 : (sz == 0) = true := by rw [h1]; rfl
          have t2 : ((ex.length : Int) == 0) = true := by rw [h2]; rfl
          clear h1 h2
          go_wp2_with fail
          go_meet
          exact ⟨by rw [HV.out], rfl⟩
        · have HV : Av (eb = false) := ⟨by rw [← HEB.out]; simp [h1, h2]⟩
          have t1 : (sz == 0) = true := by rw [h1]; rfl
          have t2 : ((ex.length : Int) == 0) = false := by simpa using h2
          clear h1 h2
          go_wp2_with fail
          go_meet
          exact ⟨by rw [HV.out], rfl⟩
      · have HV : Av (eb = false) := ⟨by rw [← HEB.out]; simp [h1]⟩
        have t1 : (sz == 0) = false := by simpa using h1
        clear h1
        go_wp2_with fail
        go_meet
        exact ⟨by rw [HV.out], rfl⟩
    case rest =>
      obtain ⟨rfl, hwc⟩ := hcut
      subst hwc
      clear HEB
      obtain ⟨w2, rfl⟩ : ∃ w2, w2 = wc := ⟨_, rfl⟩
      by_cases k1 : k = 1
      · have HR1 := HR.out
        rw [if_pos k1] at HR1
        replace HR1 := Av.mk HR1
        have t1 : (k == 1) = true := by simpa using k1
        clear HR k1
        cases nb
        · have HF : Av (R = false) := ⟨HR1.out⟩
          go_wp2_with fail
          go_ret
          exact ⟨retb HF.out, HB.out⟩
        by_cases ht : tg.toList = []
        · have HF : Av (R = r3B sz ex) := ⟨by rw [HR1.out, ht]; simp⟩
          have HC := Av.mk (r3_calls B sz ex Ae ce w2 HS.out hl3)
          have v0 : tg.toList.isEmpty = true := by rw [ht]; rfl
          clear ht
          go_wp2_with fail
          refine HC.out.mono ?_
          rintro e w3 ⟨rfl, m, rfl⟩
          go_wp2_with fail
          go_ret
          exact ⟨retb HF.out, HB.out.drewN m⟩
        · have v0 : tg.toList.isEmpty = false := by simpa using ht
          have HF : Av (R = false) := ⟨by rw [HR1.out, v0]; rfl⟩
          go_wp2_with fail
          go_ret
          exact ⟨retb HF.out, HB.out⟩
      have t1 : (k == 1) = false := by simpa using k1
      by_cases k2 : k = 2
      · have HR1 := HR.out
        rw [if_neg k1, if_pos k2] at HR1
        replace HR1 := Av.mk HR1
        have t2 : (k == 2) = true := by simpa using k2
        clear HR k1 k2
        cases eb
        · have HF : Av (R = false) := ⟨HR1.out⟩
          go_wp2_with fail
          go_ret
          exact ⟨retb HF.out, HB.out⟩
        by_cases ht : tg.toList = []
        · have HF : Av (R = nmo) := ⟨by rw [HR1.out, ht]; simp⟩
          have HC := Av.mk (HEN.out w2 HX1.out)
          have v0 : tg.toList.isEmpty = true := by rw [ht]; rfl
          clear ht
          go_wp2_with fail
          refine HC.out.mono ?_
          rintro e w3 ⟨rfl, hb3⟩
          have HB3 : Av (Bel w w3) := ⟨below_then HB.out (Below.size HB.out) hb3⟩
          clear hb3
          go_wp2_with fail
          go_ret
          exact ⟨retb HF.out, HB3.out⟩
        · have v0 : tg.toList.isEmpty = false := by simpa using ht
          have HF : Av (R = false) := ⟨by rw [HR1.out, v0]; rfl⟩
          go_wp2_with fail
          go_ret
          exact ⟨retb HF.out, HB.out⟩
      have t2 : (k == 2) = false := by simpa using k2
      by_cases k3 : k = 3
      · have HR1 := HR.out
        rw [if_neg k1, if_neg k2, if_pos k3] at HR1
        replace HR1 := Av.mk HR1
        have t3 : (k == 3) = true := by simpa using k3
        have HC := Av.mk (HSX.out w2 hg)
        clear HR k1 k2 k3
        go_wp2_with fail
        refine HC.out.mono ?_
        rintro e w3 ⟨As, sn, sc, rfl, hb3⟩
        have HB3 : Av (Bel w w3) := ⟨below_then HB.out (Below.size HB.out) hb3⟩
        have X3 := Av.mk (X.out.keep (Keep.of_below (S := fun _ => False) hb3) (by simp))
        clear hb3 c0 c1 c2 c3 c4 c5 c6 lx
        have d6 := X3.out.cell 6
        have lx := X3.out.lt
        simp at d6
        obtain ⟨sk, hsk⟩ : ∃ b, splitOk tg = b := ⟨_, rfl⟩
        rw [hsk] at HR1
        rw [hsk]
        clear hsk
        cases nb
        · have HF : Av (R = false) := ⟨HR1.out⟩
          go_wp2_with fail
          go_ret
          exact ⟨retb HF.out, HB3.out⟩
        cases eb
        · have HF : Av (R = false) := ⟨HR1.out⟩
          go_wp2_with fail
          go_ret
          exact ⟨retb HF.out, HB3.out⟩
        cases sk
        · have HF : Av (R = false) := ⟨HR1.out⟩
          go_wp2_with fail
          go_ret
          exact ⟨retb HF.out, HB3.out⟩
        have HF : Av (R = decide (tg.size ≤ 256)) := ⟨by rw [HR1.out]; simp⟩
        go_wp2_with fail
        go_ret
        exact ⟨retb (by first | exact HF.out | (rw [HF.out]; apply decide_eq_decide.2; omega)), HB3.out⟩
      have t3 : (k == 3) = false := by simpa using k3
      by_cases k4 : k = 4
      · have HR1 := HR.out
        rw [if_neg k1, if_neg k2, if_neg k3, if_pos k4] at HR1
        replace HR1 := Av.mk HR1
        have t4 : (k == 4) = true := by simpa using k4
        clear HR k1 k2 k3 k4
        cases nb
        · have HF : Av (R = false) := ⟨HR1.out⟩
          go_wp2_with fail
          go_ret
          exact ⟨retb HF.out, HB.out⟩
        cases eb
        · have HF : Av (R = false) := ⟨HR1.out⟩
          go_wp2_with fail
          go_ret
          exact ⟨retb HF.out, HB.out⟩
        have HF : Av (R = tg.toList.isEmpty) := ⟨by rw [HR1.out]; simp⟩
        by_cases ht : tg.toList = []
        · have v0 : tg.toList.isEmpty = true := by rw [ht]; rfl
          have HF2 : Av (R = true) := ⟨by rw [HF.out, v0]⟩
          clear ht
          go_wp2_with fail
          go_ret
          exact ⟨retb HF2.out, HB.out⟩
        · have v0 : tg.toList.isEmpty = false := by simpa using ht
          have HF2 : Av (R = false) := ⟨by rw [HF.out, v0]⟩
          go_wp2_with fail
          go_ret
          exact ⟨retb HF2.out, HB.out⟩
      have t4 : (k == 4) = false := by simpa using k4
      have HF : Av (R = false) := ⟨by rw [HR.out, if_neg k1, if_neg k2, if_neg k3, if_neg k4]⟩
      clear HR k1 k2 k3 k4
      go_wp2_with fail
      go_ret
      exact ⟨retb HF.out, HB.out⟩
end Go.Proofs.YtkmojgdjapfbbaaDoor
