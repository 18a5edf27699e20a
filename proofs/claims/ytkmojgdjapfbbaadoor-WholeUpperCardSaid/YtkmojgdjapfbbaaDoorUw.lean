/- WholeUpper: the walk. -/
import Derived.Test.YtkmojgdjapfbbaaDoorLow
import Derived.Deep.RegionHeld3
namespace Go.Proofs.YtkmojgdjapfbbaaDoor
open Go.RowKit Go.Maps
set_option linter.unusedSimpArgs false
set_option linter.unusedVariables false

theorem four_bel {w wb W : World} {g : Nat} (h : Bel w wb) (hk : Keep (fun k => k = g) wb W) (hg : w.heap.size ≤ g) : Bel w W :=
  Below.trans h (hk.below (Below.size h) (fun k e => by omega))
theorem RemP.opened {next : Int} {ms : List Mt} {w : World} {e : Ending} {w' : World} {n : Nat} (h : RemP next ms w e w') (hn : ms.length = n) : ∃ A c, e = .returned (.tuple #[.agg #[.slice A n c, .int .i64 next], .int .i64 0]) ∧ StAt w' A c ms ∧ Bel w w' := by
  obtain ⟨A, c, he, h1, h2⟩ := h
  exact ⟨A, c, by rw [he, hn], h1, h2⟩
set_option maxRecDepth 100000 in
set_option maxHeartbeats 40000000 in
theorem Upper_calls {w : World} {A : Option Addr} {c : Nat} {l : List T} {An : Option Addr} {cn : Nat} {ns : List ByteArray} (h : RepL (Lt w) w (.slice A l.length c) l) (hA : A = none → c = 0) (hz : ∀ t ∈ l, Sz t)
    (hns : Sl (Lt w) w 1 (.slice An ns.length cn) ns.length (ns.map Value.string)) : Calls Tryd.prog 3 #[.slice A l.length c, .slice An ns.length cn] w (RetB (.bool true) w) := by
  obtain ⟨i33, hi33⟩ := info33
  have I33 := Av.mk hi33
  have HA := Av.mk hA
  have HI := Av.mk h
  have HZ := Av.mk hz
  have HNS := Av.mk hns
  have HMY := Av.mk (fun W (hW : Bel w W) => may_calls (HI.out.lt hW) HZ.out)
  clear h hz hns hi33 hA
  go_enter Tryd.func3, Tryd.ntmps3
  go_wp2_with fail
  refine (one_top w).mono ?_
  rintro e w1 ⟨rfl, hb1⟩
  have HB1 : Av (Bel w w1) := ⟨hb1⟩
  clear hb1
  by_cases hm : l.length ≤ 8 ∧ okL l = true
  case neg =>
    have HM0 : Av (Calls Tryd.prog 8 #[.slice A l.length c] w1 (RetB (.int .i64 0) w1)) := ⟨by
      have h := HMY.out w1 HB1.out
      have hv : mayI l = 0 := by unfold mayI; rw [if_neg hm]
      rwa [hv] at h⟩
    clear hm HMY
    go_wp2_with fail
    refine HM0.out.mono ?_
    rintro e w2 ⟨rfl, hb2⟩
    have HB2 : Av (Bel w w2) := ⟨below_then HB1.out (Below.size HB1.out) hb2⟩
    clear hb2
    go_wp2_with fail
    go_ret
    exact ⟨rfl, HB2.out⟩
  have HM1 : Av (Calls Tryd.prog 8 #[.slice A l.length c] w1 (RetB (.int .i64 1) w1)) := ⟨by
    have h := HMY.out w1 HB1.out
    have hv : mayI l = 1 := by unfold mayI; rw [if_pos hm]
    rwa [hv] at h⟩
  obtain ⟨hl8, hok⟩ := hm
  have HOK := Av.mk hok
  clear HMY hok
  by_cases h20 : ns.length ≤ 20
  case neg =>
    have t1 : decide ((20 : Int) < (ns.length : Int)) = true := by rw [decide_eq_true_eq]; omega
    go_wp2_with fail
    refine HM1.out.mono ?_
    rintro e w2 ⟨rfl, hb2⟩
    have HB2 : Av (Bel w w2) := ⟨below_then HB1.out (Below.size HB1.out) hb2⟩
    clear hb2
    go_wp2_with fail
    go_ret
    exact ⟨rfl, HB2.out⟩
  have t1 : decide ((20 : Int) < (ns.length : Int)) = false := by rw [decide_eq_false_iff_not]; omega
  go_wp2_with fail
  refine HM1.out.mono ?_
  rintro e w2 ⟨rfl, hb2⟩
  have HB2 : Av (Bel w w2) := ⟨below_then HB1.out (Below.size HB1.out) hb2⟩
  clear hb2 HM1 HB1
  have HST := Av.mk (stack_calls (HI.out.lt HB2.out) HZ.out hl8 HOK.out)
  go_wp2_with fail
  refine HST.out.mono ?_
  rintro e w3 ⟨As, cs, ms, rfl, hst, hml, hmap, hb3⟩
  have HB3 : Av (Bel w w3) := ⟨below_then HB2.out (Below.size HB2.out) hb3⟩
  have SS3 := Av.mk hst
  have MM := Av.mk (And.intro hml hmap)
  clear hst hml hmap hb3 HB2 HST t1
  go_upto_region 6 with (fail)
  have hba := below_alloc (Below.refl _ w3) (.cells #[.slice As l.length cs, .int .i64 (l.length : Int)] 28)
  have G5 := Av.mk (Blk.new w3 28 #[.slice As l.length cs, .int .i64 (l.length : Int)])
  have SS4 := Av.mk (SS3.out.grow hba)
  have HB4 : Av (Bel w (w3.alloc (.cells #[.slice As l.length cs, .int .i64 (l.length : Int)] 28))) := ⟨below_then HB3.out (Below.size HB3.out) hba⟩
  clear hba SS3 HB3
  generalize w3.alloc (.cells #[.slice As l.length cs, .int .i64 (l.length : Int)] 28) = w4 at *
  generalize w3.heap.size = g5 at *
  have HBW := HB4
  go_cut [7, 8] (fun sp sb wx => ∃ (gq : Nat) (bq : Bool), sp = .pointer (some ⟨gq, 0, none⟩) ∧ sb = .bool bq ∧ TopAt wx gq bq l (dirT [] []) ∧ Bel w4 wx)
  case first =>
    have HIW := Av.mk (HI.out.lt HBW.out)
    obtain ⟨ps, hps, hsl, hrep⟩ := HIW.out
    have HPS : Av (ps.length = l.length ∧ ∀ (i : Nat) (q : NV) (u : T), ps[i]? = some q → l[i]? = some u → Rep (Lt w4) w4 q u) := ⟨⟨hps, hrep⟩⟩
    cases A with
    | none =>
      have hc0 := HA.out rfl
      subst hc0
      have hl0 : l.length = 0 := by
        rcases Nat.eq_zero_or_pos l.length with h | h
        · exact h
        · obtain ⟨b, off, e, _⟩ := hsl.at h
          cases e
      obtain rfl : l = [] := List.eq_nil_of_length_eq_zero hl0
      obtain rfl : ps = [] := List.eq_nil_of_length_eq_zero hps
      have R5 := Av.mk (row_empty w4)
      have HB6 : Av (Bel w4 (w4.alloc (.cells #[] 33))) := ⟨below_alloc (Below.refl _ w4) _⟩
      clear hsl hps hrep hl0
      go_wp2_with fail
      have R6 : Av ((w4.alloc (.cells #[] 33)).ownsRow w4.heap.size 33 7 (.slice (some ⟨w4.heap.size, 0, none⟩) 0 0) 0 []) := ⟨R5.out⟩
      generalize w4.alloc (.cells #[] 33) = w6 at *
      have HDR := Av.mk (Dir_calls (Lt w6) w6 none none 0 0 [] [] (Sl.nil _ _ _ _ _) (RepL.nil _ _ _ _) (by simp) (by simp))
      clear R5
      refine HDR.out.mono ?_
      intro e w7 hp
      obtain ⟨Dn, dn, Di, di, De, de, rfl, hr7, hb7⟩ := hp.opened
      have HB7 : Av (Bel w4 w7) := ⟨below_then HB6.out (Below.size HB6.out) hb7⟩
      have HD7 : Av (Rep (Lt w7) w7 ⟨.slice Dn 0 dn, .slice Di 0 di, .slice De 0 de⟩ (dirT [] [])) := ⟨hr7⟩
      have R7 := Av.mk (row_keep R6.out (Keep.of_below (S := fun _ => False) hb7) (by simp))
      clear hp hr7 hb7 HDR R6 HB6
      go_wp2_with (first | (at_builtin; refine wpList_app rfl _ _ 22 rfl w4.heap.size 33 i33 _ 7 112 Tryd.underlying22 I33.out.1 I33.out.2.1 I33.out.2.2.1 I33.out.2.2.2 (by rfl) (by decide) (.slice (some ⟨w4.heap.size, 0, none⟩) 0 0) 0 _ rfl (R7.out.alloc _) ⟨w7.heap.size, 0, none⟩ 1 1 [.int .i64 2, .bool false, .slice Dn 0 dn, .slice Di 0 di, .int .i64 0, .slice De 0 de, .string ⟨#[]⟩] rfl rfl (new_cells w7 [.int .i64 2, .bool false, .slice Dn 0 dn, .slice Di 0 di, .int .i64 0, .slice De 0 de, .string ⟨#[]⟩] 33) (by simp [Value.oneCell']) (by unfold maxLen; omega) (by omega) (by have := Below.size HB7.out; simp; omega) ?_; intro A9 c9 w9 ho9 hg9 _; have HO9 := Av.mk ho9; have HG9 := Av.mk hg9; clear ho9 hg9))
      have hb9 : Bel w4 w9 := ((show Below w4.heap.size w4 w7 from HB7.out).alloc (Below.size HB7.out) _).grown HG9.out (by have := Below.size HB7.out; simp; omega) (fun k hk => row_base R7.out k hk.symm)
      have HB9 := Av.mk hb9
      have hRE : Rep (Lt w9) w9 ⟨.slice Dn 0 dn, .slice Di 0 di, .slice De 0 de⟩ (dirT [] []) := Rep.of (Sl.nil _ _ 1 Dn dn) (Sl.nil _ _ 2 De de) (RepL.nil _ _ Di di)
      have hRL : RepL (Lt w9) w9 (.slice A9 (0 + 1) c9) ([] ++ [(dirT [] [])]) := repL_snoc (ps := []) rfl HPS.out.1 (repL_up HPS.out.2 hb9) hRE HO9.out
      have HSA := Av.mk (stack_any hRL HZ.out bare_sz.1 HOK.out bare_ok.1)
      clear hb9 hRE hRL HO9 HG9
      refine HSA.out.mono ?_
      rintro e w10 ⟨Aq, cq, nq, mq, bq, rfl, hbq, hq⟩
      have HBQ : Av (Bel w4 w10) := ⟨below_then HB9.out (Below.size HB9.out) hbq⟩
      have HQ := Av.mk hq
      clear hbq hq HSA
      go_wp2_with fail
      go_meet
      have hba := below_alloc (Below.refl _ w10) (.cells #[.slice Aq nq cq, .int .i64 mq] 28)
      refine ⟨w10.heap.size, bq, rfl, rfl, ⟨Aq, cq, nq, mq, Blk.new w10 28 #[.slice Aq nq cq, .int .i64 mq], fun hl => ?_⟩, below_then HBQ.out (Below.size HBQ.out) hba⟩
      obtain ⟨e1, e2, e3, ms', h3, h4, h5⟩ := HQ.out hl
      exact ⟨e1, e2, e3, ms', h3, h4.grow hba, h5⟩
    | some ad =>
      have R5 := Av.mk (row_empty w4)
      have HN5 : Av (∀ (j : Nat) u, ((ps.zip l).flatMap pairC)[j]? = some u → (w4.alloc (.cells #[] 33)).cell? (ad.add j) = some u) := ⟨(hsl.grow (below_alloc (Below.refl _ w4) (.cells #[] 33))).news⟩
      have HONE := Av.mk (one_nodes hrep)
      have HZL := Av.mk (zip_len hps)
      clear hsl hps hrep
      go_wp2_with (first | (at_builtin; refine wpList_app rfl _ _ 22 rfl w4.heap.size 33 i33 _ 7 112 Tryd.underlying22 I33.out.1 I33.out.2.1 I33.out.2.2.1 I33.out.2.2.2 (by rfl) (by decide) (.slice (some ⟨w4.heap.size, 0, none⟩) 0 0) 0 [] rfl R5.out ad l.length c ((ps.zip l).flatMap pairC) rfl HZL.out HN5.out HONE.out (by unfold maxLen; omega) (by omega) (by simp) ?_; intro A1 c1 w6 ho6 hg6 _; have HO6 := Av.mk ho6; have HG6 := Av.mk hg6; clear ho6 hg6))
      have R6 : Av (w6.ownsRow w4.heap.size 33 7 (.slice A1 l.length c1) l.length ((ps.zip l).flatMap pairC)) := ⟨by
        have h := HO6.out
        rw [Nat.zero_add, List.nil_append] at h
        exact h⟩
      have HB6 : Av (Bel w4 w6) := ⟨(below_alloc (Below.refl _ w4) (.cells #[] 33)).grown HG6.out (by simp) (fun k hk => by cases hk; exact Nat.le_refl _)⟩
      have HDR := Av.mk (Dir_calls (Lt w6) w6 none none 0 0 [] [] (Sl.nil _ _ _ _ _) (RepL.nil _ _ _ _) (by simp) (by simp))
      clear HO6 HG6 R5 HN5 HONE HZL
      refine HDR.out.mono ?_
      intro e w7 hp
      obtain ⟨Dn, dn, Di, di, De, de, rfl, hr7, hb7⟩ := hp.opened
      have HB7 : Av (Bel w4 w7) := ⟨below_then HB6.out (Below.size HB6.out) hb7⟩
      have HD7 : Av (Rep (Lt w7) w7 ⟨.slice Dn 0 dn, .slice Di 0 di, .slice De 0 de⟩ (dirT [] [])) := ⟨hr7⟩
      have R7 := Av.mk (row_keep R6.out (Keep.of_below (S := fun _ => False) hb7) (by simp))
      clear hp hr7 hb7 HDR R6 HB6
      go_wp2_with (first | (at_builtin; refine wpList_app rfl _ _ 22 rfl w4.heap.size 33 i33 _ 7 112 Tryd.underlying22 I33.out.1 I33.out.2.1 I33.out.2.2.1 I33.out.2.2.2 (by rfl) (by decide) (.slice A1 l.length c1) l.length _ rfl (R7.out.alloc _) ⟨w7.heap.size, 0, none⟩ 1 1 [.int .i64 2, .bool false, .slice Dn 0 dn, .slice Di 0 di, .int .i64 0, .slice De 0 de, .string ⟨#[]⟩] rfl rfl (new_cells w7 [.int .i64 2, .bool false, .slice Dn 0 dn, .slice Di 0 di, .int .i64 0, .slice De 0 de, .string ⟨#[]⟩] 33) (by simp [Value.oneCell']) (by unfold maxLen; omega) (by omega) (by have := Below.size HB7.out; simp; omega) ?_; intro A9 c9 w9 ho9 hg9 _; have HO9 := Av.mk ho9; have HG9 := Av.mk hg9; clear ho9 hg9))
      have hb9 : Bel w4 w9 := ((show Below w4.heap.size w4 w7 from HB7.out).alloc (Below.size HB7.out) _).grown HG9.out (by have := Below.size HB7.out; simp; omega) (fun k hk => row_base R7.out k hk.symm)
      have HB9 := Av.mk hb9
      have hRE : Rep (Lt w9) w9 ⟨.slice Dn 0 dn, .slice Di 0 di, .slice De 0 de⟩ (dirT [] []) := Rep.of (Sl.nil _ _ 1 Dn dn) (Sl.nil _ _ 2 De de) (RepL.nil _ _ Di di)
      have hRL : RepL (Lt w9) w9 (.slice A9 (l.length + 1) c9) (l ++ [(dirT [] [])]) := repL_snoc rfl HPS.out.1 (repL_up HPS.out.2 hb9) hRE HO9.out
      have HSA := Av.mk (stack_any hRL HZ.out bare_sz.1 HOK.out bare_ok.1)
      clear hb9 hRE hRL HO9 HG9
      refine HSA.out.mono ?_
      rintro e w10 ⟨Aq, cq, nq, mq, bq, rfl, hbq, hq⟩
      have HBQ : Av (Bel w4 w10) := ⟨below_then HB9.out (Below.size HB9.out) hbq⟩
      have HQ := Av.mk hq
      clear hbq hq HSA
      go_wp2_with fail
      go_meet
      have hba := below_alloc (Below.refl _ w10) (.cells #[.slice Aq nq cq, .int .i64 mq] 28)
      refine ⟨w10.heap.size, bq, rfl, rfl, ⟨Aq, cq, nq, mq, Blk.new w10 28 #[.slice Aq nq cq, .int .i64 mq], fun hl => ?_⟩, below_then HBQ.out (Below.size HBQ.out) hba⟩
      obtain ⟨e1, e2, e3, ms', h3, h4, h5⟩ := HQ.out hl
      exact ⟨e1, e2, e3, ms', h3, h4.grow hba, h5⟩
  case rest =>
    obtain ⟨g7, b7, rfl, rfl, ht7, hbc⟩ := hcut
    obtain ⟨w5, rfl⟩ : ∃ w5, w5 = wc := ⟨_, rfl⟩
    have HT7 := Av.mk ht7
    have HB5 : Av (Bel w w5) := ⟨below_then HB4.out (Below.size HB4.out) hbc⟩
    have G5b := Av.mk (G5.out.keep (Keep.of_below (S := fun _ => False) hbc) (by simp))
    have SS5 := Av.mk (SS4.out.grow hbc)
    clear ht7 hbc HBW G5 SS4 HB4
    have HBW := HB5
    go_upto_region 7 with (fail)
    go_cut [9, 10] (fun sp sb wx => ∃ (gq : Nat) (bq : Bool), sp = .pointer (some ⟨gq, 0, none⟩) ∧ sb = .bool bq ∧ TopAt wx gq bq l (dirT [] []).opaque ∧ Bel w5 wx)
    case first =>
      have HIW := Av.mk (HI.out.lt HBW.out)
      obtain ⟨ps, hps, hsl, hrep⟩ := HIW.out
      have HPS : Av (ps.length = l.length ∧ ∀ (i : Nat) (q : NV) (u : T), ps[i]? = some q → l[i]? = some u → Rep (Lt w5) w5 q u) := ⟨⟨hps, hrep⟩⟩
      cases A with
      | none =>
        have hc0 := HA.out rfl
        subst hc0
        have hl0 : l.length = 0 := by
          rcases Nat.eq_zero_or_pos l.length with h | h
          · exact h
          · obtain ⟨b, off, e, _⟩ := hsl.at h
            cases e
        obtain rfl : l = [] := List.eq_nil_of_length_eq_zero hl0
        obtain rfl : ps = [] := List.eq_nil_of_length_eq_zero hps
        have R5 := Av.mk (row_empty w5)
        have HB6 : Av (Bel w5 (w5.alloc (.cells #[] 33))) := ⟨below_alloc (Below.refl _ w5) _⟩
        clear hsl hps hrep hl0
        go_wp2_with fail
        have R6 : Av ((w5.alloc (.cells #[] 33)).ownsRow w5.heap.size 33 7 (.slice (some ⟨w5.heap.size, 0, none⟩) 0 0) 0 []) := ⟨R5.out⟩
        generalize w5.alloc (.cells #[] 33) = w6 at *
        have HDR := Av.mk (Dir_calls (Lt w6) w6 none none 0 0 [] [] (Sl.nil _ _ _ _ _) (RepL.nil _ _ _ _) (by simp) (by simp))
        clear R5
        refine HDR.out.mono ?_
        intro e w7 hp
        obtain ⟨Dn, dn, Di, di, De, de, rfl, hr7, hb7⟩ := hp.opened
        have HB7 : Av (Bel w5 w7) := ⟨below_then HB6.out (Below.size HB6.out) hb7⟩
        have HD7 : Av (Rep (Lt w7) w7 ⟨.slice Dn 0 dn, .slice Di 0 di, .slice De 0 de⟩ (dirT [] [])) := ⟨hr7⟩
        have R7 := Av.mk (row_keep R6.out (Keep.of_below (S := fun _ => False) hb7) (by simp))
        clear hp hr7 hb7 HDR R6 HB6
        have HOQ := Av.mk (fun W => opq_calls 2 false Dn Di De 0 dn 0 di 0 de 0 ⟨#[]⟩ W)
        go_wp2_with fail
        refine (HOQ.out w7).mono ?_
        rintro e w8 ⟨rfl, hb8⟩
        have HB8 : Av (Bel w5 w8) := ⟨below_then HB7.out (Below.size HB7.out) hb8⟩
        have HD8 : Av (Rep (Lt w8) w8 ⟨.slice Dn 0 dn, .slice Di 0 di, .slice De 0 de⟩ (dirT [] []).opaque) := ⟨((HD7.out.grow hb8).mono (fun k hk => Nat.lt_of_lt_of_le hk hb8.size)).opaque⟩
        have R8 := Av.mk (row_keep R7.out (Keep.of_below (S := fun _ => False) hb8) (by simp))
        clear hb8 HOQ R7 HB7 HD7
        go_wp2_with (first | (at_builtin; refine wpList_app rfl _ _ 22 rfl w5.heap.size 33 i33 _ 7 112 Tryd.underlying22 I33.out.1 I33.out.2.1 I33.out.2.2.1 I33.out.2.2.2 (by rfl) (by decide) (.slice (some ⟨w5.heap.size, 0, none⟩) 0 0) 0 _ rfl (R8.out.alloc _) ⟨w8.heap.size, 0, none⟩ 1 1 [.int .i64 2, .bool true, .slice Dn 0 dn, .slice Di 0 di, .int .i64 0, .slice De 0 de, .string ⟨#[]⟩] rfl rfl (new_cells w8 [.int .i64 2, .bool true, .slice Dn 0 dn, .slice Di 0 di, .int .i64 0, .slice De 0 de, .string ⟨#[]⟩] 33) (by simp [Value.oneCell']) (by unfold maxLen; omega) (by omega) (by have := Below.size HB8.out; simp; omega) ?_; intro A9 c9 w9 ho9 hg9 _; have HO9 := Av.mk ho9; have HG9 := Av.mk hg9; clear ho9 hg9))
        have hb9 : Bel w5 w9 := ((show Below w5.heap.size w5 w8 from HB8.out).alloc (Below.size HB8.out) _).grown HG9.out (by have := Below.size HB8.out; simp; omega) (fun k hk => row_base R8.out k hk.symm)
        have HB9 := Av.mk hb9
        have hRE : Rep (Lt w9) w9 ⟨.slice Dn 0 dn, .slice Di 0 di, .slice De 0 de⟩ (dirT [] []).opaque := Rep.of (Sl.nil _ _ 1 Dn dn) (Sl.nil _ _ 2 De de) (RepL.nil _ _ Di di)
        have hRL : RepL (Lt w9) w9 (.slice A9 (0 + 1) c9) ([] ++ [(dirT [] []).opaque]) := repL_snoc (ps := []) rfl HPS.out.1 (repL_up HPS.out.2 hb9) hRE HO9.out
        have HSA := Av.mk (stack_any hRL HZ.out bare_sz.2 HOK.out bare_ok.2)
        clear hb9 hRE hRL HO9 HG9
        refine HSA.out.mono ?_
        rintro e w10 ⟨Aq, cq, nq, mq, bq, rfl, hbq, hq⟩
        have HBQ : Av (Bel w5 w10) := ⟨below_then HB9.out (Below.size HB9.out) hbq⟩
        have HQ := Av.mk hq
        clear hbq hq HSA
        go_wp2_with fail
        go_meet
        have hba := below_alloc (Below.refl _ w10) (.cells #[.slice Aq nq cq, .int .i64 mq] 28)
        refine ⟨w10.heap.size, bq, rfl, rfl, ⟨Aq, cq, nq, mq, Blk.new w10 28 #[.slice Aq nq cq, .int .i64 mq], fun hl => ?_⟩, below_then HBQ.out (Below.size HBQ.out) hba⟩
        obtain ⟨e1, e2, e3, ms', h3, h4, h5⟩ := HQ.out hl
        exact ⟨e1, e2, e3, ms', h3, h4.grow hba, h5⟩
      | some ad =>
        have R5 := Av.mk (row_empty w5)
        have HN5 : Av (∀ (j : Nat) u, ((ps.zip l).flatMap pairC)[j]? = some u → (w5.alloc (.cells #[] 33)).cell? (ad.add j) = some u) := ⟨(hsl.grow (below_alloc (Below.refl _ w5) (.cells #[] 33))).news⟩
        have HONE := Av.mk (one_nodes hrep)
        have HZL := Av.mk (zip_len hps)
        clear hsl hps hrep
        go_wp2_with (first | (at_builtin; refine wpList_app rfl _ _ 22 rfl w5.heap.size 33 i33 _ 7 112 Tryd.underlying22 I33.out.1 I33.out.2.1 I33.out.2.2.1 I33.out.2.2.2 (by rfl) (by decide) (.slice (some ⟨w5.heap.size, 0, none⟩) 0 0) 0 [] rfl R5.out ad l.length c ((ps.zip l).flatMap pairC) rfl HZL.out HN5.out HONE.out (by unfold maxLen; omega) (by omega) (by simp) ?_; intro A1 c1 w6 ho6 hg6 _; have HO6 := Av.mk ho6; have HG6 := Av.mk hg6; clear ho6 hg6))
        have R6 : Av (w6.ownsRow w5.heap.size 33 7 (.slice A1 l.length c1) l.length ((ps.zip l).flatMap pairC)) := ⟨by
          have h := HO6.out
          rw [Nat.zero_add, List.nil_append] at h
          exact h⟩
        have HB6 : Av (Bel w5 w6) := ⟨(below_alloc (Below.refl _ w5) (.cells #[] 33)).grown HG6.out (by simp) (fun k hk => by cases hk; exact Nat.le_refl _)⟩
        have HDR := Av.mk (Dir_calls (Lt w6) w6 none none 0 0 [] [] (Sl.nil _ _ _ _ _) (RepL.nil _ _ _ _) (by simp) (by simp))
        clear HO6 HG6 R5 HN5 HONE HZL
        refine HDR.out.mono ?_
        intro e w7 hp
        obtain ⟨Dn, dn, Di, di, De, de, rfl, hr7, hb7⟩ := hp.opened
        have HB7 : Av (Bel w5 w7) := ⟨below_then HB6.out (Below.size HB6.out) hb7⟩
        have HD7 : Av (Rep (Lt w7) w7 ⟨.slice Dn 0 dn, .slice Di 0 di, .slice De 0 de⟩ (dirT [] [])) := ⟨hr7⟩
        have R7 := Av.mk (row_keep R6.out (Keep.of_below (S := fun _ => False) hb7) (by simp))
        clear hp hr7 hb7 HDR R6 HB6
        have HOQ := Av.mk (fun W => opq_calls 2 false Dn Di De 0 dn 0 di 0 de 0 ⟨#[]⟩ W)
        go_wp2_with fail
        refine (HOQ.out w7).mono ?_
        rintro e w8 ⟨rfl, hb8⟩
        have HB8 : Av (Bel w5 w8) := ⟨below_then HB7.out (Below.size HB7.out) hb8⟩
        have HD8 : Av (Rep (Lt w8) w8 ⟨.slice Dn 0 dn, .slice Di 0 di, .slice De 0 de⟩ (dirT [] []).opaque) := ⟨((HD7.out.grow hb8).mono (fun k hk => Nat.lt_of_lt_of_le hk hb8.size)).opaque⟩
        have R8 := Av.mk (row_keep R7.out (Keep.of_below (S := fun _ => False) hb8) (by simp))
        clear hb8 HOQ R7 HB7 HD7
        go_wp2_with (first | (at_builtin; refine wpList_app rfl _ _ 22 rfl w5.heap.size 33 i33 _ 7 112 Tryd.underlying22 I33.out.1 I33.out.2.1 I33.out.2.2.1 I33.out.2.2.2 (by rfl) (by decide) (.slice A1 l.length c1) l.length _ rfl (R8.out.alloc _) ⟨w8.heap.size, 0, none⟩ 1 1 [.int .i64 2, .bool true, .slice Dn 0 dn, .slice Di 0 di, .int .i64 0, .slice De 0 de, .string ⟨#[]⟩] rfl rfl (new_cells w8 [.int .i64 2, .bool true, .slice Dn 0 dn, .slice Di 0 di, .int .i64 0, .slice De 0 de, .string ⟨#[]⟩] 33) (by simp [Value.oneCell']) (by unfold maxLen; omega) (by omega) (by have := Below.size HB8.out; simp; omega) ?_; intro A9 c9 w9 ho9 hg9 _; have HO9 := Av.mk ho9; have HG9 := Av.mk hg9; clear ho9 hg9))
        have hb9 : Bel w5 w9 := ((show Below w5.heap.size w5 w8 from HB8.out).alloc (Below.size HB8.out) _).grown HG9.out (by have := Below.size HB8.out; simp; omega) (fun k hk => row_base R8.out k hk.symm)
        have HB9 := Av.mk hb9
        have hRE : Rep (Lt w9) w9 ⟨.slice Dn 0 dn, .slice Di 0 di, .slice De 0 de⟩ (dirT [] []).opaque := Rep.of (Sl.nil _ _ 1 Dn dn) (Sl.nil _ _ 2 De de) (RepL.nil _ _ Di di)
        have hRL : RepL (Lt w9) w9 (.slice A9 (l.length + 1) c9) (l ++ [(dirT [] []).opaque]) := repL_snoc rfl HPS.out.1 (repL_up HPS.out.2 hb9) hRE HO9.out
        have HSA := Av.mk (stack_any hRL HZ.out bare_sz.2 HOK.out bare_ok.2)
        clear hb9 hRE hRL HO9 HG9
        refine HSA.out.mono ?_
        rintro e w10 ⟨Aq, cq, nq, mq, bq, rfl, hbq, hq⟩
        have HBQ : Av (Bel w5 w10) := ⟨below_then HB9.out (Below.size HB9.out) hbq⟩
        have HQ := Av.mk hq
        clear hbq hq HSA
        go_wp2_with fail
        go_meet
        have hba := below_alloc (Below.refl _ w10) (.cells #[.slice Aq nq cq, .int .i64 mq] 28)
        refine ⟨w10.heap.size, bq, rfl, rfl, ⟨Aq, cq, nq, mq, Blk.new w10 28 #[.slice Aq nq cq, .int .i64 mq], fun hl => ?_⟩, below_then HBQ.out (Below.size HBQ.out) hba⟩
        obtain ⟨e1, e2, e3, ms', h3, h4, h5⟩ := HQ.out hl
        exact ⟨e1, e2, e3, ms', h3, h4.grow hba, h5⟩
    case rest =>
      obtain ⟨g9, b9, rfl, rfl, ht9, hbc⟩ := hcut
      obtain ⟨w8, rfl⟩ : ∃ w8, w8 = wc := ⟨_, rfl⟩
      have HB8 : Av (Bel w w8) := ⟨below_then HB5.out (Below.size HB5.out) hbc⟩
      have G8 := Av.mk (G5b.out.keep (Keep.of_below (S := fun _ => False) hbc) (by simp))
      have SS8 := Av.mk (SS5.out.grow hbc)
      have ht7 := HT7.out.grow hbc
      clear hbc HBW G5b SS5 HB5 HT7
      by_cases h8 : l.length = 8
      · have t8 : ((l.length : Int) == 8) = true := by rw [h8]; rfl
        clear h8
        go_wp2_with fail
        go_ret
        exact ⟨rfl, HB8.out⟩
      have t8 : ((l.length : Int) == 8) = false := by simp; omega
      have hl7 : l.length ≤ 7 := by omega
      obtain ⟨A7, c7, n7, m7, hbk7, h7⟩ := ht7
      obtain ⟨rfl, hn7, hm7, ms7, hml7, hst7, hmk7⟩ := h7 hl7
      obtain ⟨A9, c9, n9, m9, hbk9, h9⟩ := ht9
      obtain ⟨rfl, hn9, hm9, ms9, hml9, hst9, hmk9⟩ := h9 hl7
      rw [stk_snoc] at hmk7 hmk9
      cases ms7 with
      | nil => simp at hmk7
      | cons m7h ms7t =>
      simp only [List.map_cons, List.cons.injEq] at hmk7
      have hid7 : m7h.id = l.length := congrArg Prod.fst hmk7.1
      have hlen7 : ms7t.length = l.length := by simp at hml7; omega
      have HRM := remove_calls hst7 m7 (by omega)
      have hn7e : ms7t.length + 1 = n7 := by omega
      rw [hid7, hn7e] at HRM
      have HN7 := Av.mk (And.intro hn7 (And.intro hm7 (And.intro hn9 hm9)))
      have HV := Av.mk (And.intro hlen7 hmk7.2)
      have HT7 := Av.mk (And.intro hbk7 (And.intro hst7 (And.intro hml7 hmk7)))
      have HT9 := Av.mk (And.intro hbk9 (And.intro hst9 (And.intro hml9 hmk9)))
      have HRMA := Av.mk HRM
      have t0 := hbk7.cell 0
      have t1 := hbk7.cell 1
      have lt7 := hbk7.lt
      simp at t0 t1
      clear HRM hbk7 hst7 hml7 hmk7 hbk9 hst9 hml9 hmk9 h7 h9 hm7 hm9 hn7 hn9 hn7e hid7 hlen7 h8
      go_wp2_with fail
      refine HRMA.out.mono ?_
      intro e w9 hp
      obtain ⟨Ar, cr, rfl, hstr, hb9⟩ := hp.opened HV.out.1
      have HB9 : Av (Bel w8 w9) := ⟨hb9⟩
      have SR := Av.mk hstr
      clear hp hstr hb9 t0 t1 lt7 HRMA
      go_upto_region 11 with (fail)
      have hba := below_alloc (Below.refl _ w9) (.cells #[.slice Ar l.length cr, .int .i64 m7] 28)
      have G11 := Av.mk (Blk.new w9 28 #[.slice Ar l.length cr, .int .i64 m7])
      have SR10 := Av.mk (SR.out.grow hba)
      have HB10 : Av (Bel w8 (w9.alloc (.cells #[.slice Ar l.length cr, .int .i64 m7] 28))) := ⟨below_then HB9.out (Below.size HB9.out) hba⟩
      clear hba SR HB9
      generalize w9.alloc (.cells #[.slice Ar l.length cr, .int .i64 m7] 28) = w10 at *
      generalize w9.heap.size = g11 at *
      have G10 := Av.mk (G8.out.keep (Keep.of_below (S := fun _ => False) HB10.out) (by simp))
      have SS10 := Av.mk (SS8.out.grow HB10.out)
      have H710 := Av.mk (HT7.out.1.keep (Keep.of_below (S := fun _ => False) HB10.out) (by simp))
      have S710 := Av.mk (HT7.out.2.1.grow HB10.out)
      have H910 := Av.mk (HT9.out.1.keep (Keep.of_below (S := fun _ => False) HB10.out) (by simp))
      have S910 := Av.mk (HT9.out.2.1.grow HB10.out)
      have M7 := Av.mk HT7.out.2.2
      have M9 := Av.mk HT9.out.2.2
      have HBT : Av (Bel w w10) := ⟨below_then HB8.out (Below.size HB8.out) HB10.out⟩
      clear HT7 HT9 G8 SS8 HB8 HB10
      go_cut [89] (fun s89 wx => s89 = .bool false ∧ Bel w10 wx)
      case first =>
        have HLC : Av (∀ A n c next W, Bel w10 W → Calls Tryd.prog 13 #[.agg #[.slice A n c, .int .i64 next]] W (fun e w' => e = .returned (.int .i64 (n : Int)) ∧ Bel W w' ∧ w'.cell? ⟨g11, 0, none⟩ = some (.slice Ar l.length cr) ∧ w'.cell? ⟨g11, 1, none⟩ = some (.int .i64 m7) ∧ w'.cell? ⟨g5, 0, none⟩ = some (.slice As l.length cs) ∧ w'.cell? ⟨g5, 1, none⟩ = some (.int .i64 (l.length : Int)))) := ⟨fun A n c next W hW => (len_calls A n c next W).mono fun e w' ⟨he, hb⟩ => by
          have hy := (G11.out.keep (Keep.of_below (S := fun _ => False) hW) (by simp)).keep (Keep.of_below (S := fun _ => False) hb) (by simp)
          have hx := (G10.out.keep (Keep.of_below (S := fun _ => False) hW) (by simp)).keep (Keep.of_below (S := fun _ => False) hb) (by simp)
          exact ⟨he, hb, hy.cell 0, hy.cell 1, hx.cell 0, hx.cell 1⟩⟩
        have y0 := G11.out.cell 0
        have y1 := G11.out.cell 1
        have ly := G11.out.lt
        have x0 := G10.out.cell 0
        have x1 := G10.out.cell 1
        have lx := G10.out.lt
        simp at y0 y1 x0 x1
        go_region_held3 (fun W => W.cell? ⟨g11, 0, none⟩ = some (.slice Ar l.length cr) ∧ W.cell? ⟨g11, 1, none⟩ = some (.int .i64 m7) ∧ W.cell? ⟨g5, 0, none⟩ = some (.slice As l.length cs) ∧ W.cell? ⟨g5, 1, none⟩ = some (.int .i64 (l.length : Int))) (first | (exact ⟨by assumption, by assumption, by assumption, by assumption⟩) | go_keep)
          (first
          | (go_at_call 13
             refine Calls.mono (HLC.out _ _ _ _ wa HBa.out) ?_
             rintro e wb ⟨rfl, hbb, hb0, hb1, hb2, hb3⟩
             have HBb : Av (Bel w10 wb) := ⟨below_then HBa.out (Below.size HBa.out) hbb⟩
             clear hbb)
          | (go_at_call 13
             refine Calls.mono (HLC.out _ _ _ _ _ (bel_drew w10)) ?_
             rintro e wa ⟨rfl, hba, ha0, ha1, ha2, ha3⟩
             have HBa : Av (Bel w10 wa) := ⟨below_then (bel_drew w10) (Below.size (bel_drew w10)) hba⟩
             clear hba))
        all_goals
          go_wp2_with fail
          go_meet
          exact ⟨rfl, HBb.out⟩
      case rest =>
        obtain ⟨rfl, hbc⟩ := hcut
        obtain ⟨w11, rfl⟩ : ∃ w11, w11 = wc := ⟨_, rfl⟩
        have HB11 : Av (Bel w w11) := ⟨below_then HBT.out (Below.size HBT.out) hbc⟩
        have KB : Av (Bel w10 w11) := ⟨hbc⟩
        have GS := Av.mk (G10.out.keep (Keep.of_below (S := fun _ => False) hbc) (by simp))
        have GR := Av.mk (G11.out.keep (Keep.of_below (S := fun _ => False) hbc) (by simp))
        have G7 := Av.mk (H710.out.keep (Keep.of_below (S := fun _ => False) hbc) (by simp))
        have G9 := Av.mk (H910.out.keep (Keep.of_below (S := fun _ => False) hbc) (by simp))
        have SS := Av.mk (SS10.out.grow hbc)
        have SR := Av.mk (SR10.out.grow hbc)
        have S7 := Av.mk (S710.out.grow hbc)
        have S9 := Av.mk (S910.out.grow hbc)
        have HNM := Av.mk (HNS.out.grow HB11.out)
        clear hbc G10 G11 H710 H910 SS10 SR10 S710 S910 HBT KB
        have XS := Av.mk (xs_of MM.out.2)
        have XR := Av.mk (xs_of HV.out.2)
        have X7 : Av ((m7h :: ms7t).map Mt.xs = bare false :: (stk l).map (·.2)) := ⟨by
          rw [List.map_cons, XR.out]
          congr 1
          have h1 := congrArg Prod.snd M7.out.2.1
          exact h1⟩
        have X9 : Av (ms9.map Mt.xs = bare true :: (stk l).map (·.2)) := ⟨by
          have h1 : ms9.map Mt.xs = (ms9.map mtKey).map (·.2) := by rw [List.map_map]; rfl
          rw [h1, M9.out.2]
          rfl⟩
        have OS := Av.mk (oks_of MM.out.2 HZ.out HOK.out)
        have OR := Av.mk (oks_of HV.out.2 HZ.out HOK.out)
        have O7 : Av (Oks (m7h :: ms7t)) := ⟨fun m hm i => by
          rcases List.mem_cons.1 hm with rfl | hm
          · have h1 : m.xs = bare false := congrArg Prod.snd M7.out.2.1
            rw [h1]
            exact inoAt_ok (fun x hx => by rw [List.mem_singleton.1 hx]; exact ⟨fun i j a b _ h => by simp at h, rfl, by simp⟩) i
          · exact OR.out m hm i⟩
        have O9 : Av (Oks ms9) := ⟨fun m hm i => by
          have h1 : mtKey m ∈ (l.length, T.rows 0 (dirT [] []).opaque) :: stk l := by rw [← M9.out.2]; exact List.mem_map.2 ⟨m, hm, rfl⟩
          rcases List.mem_cons.1 h1 with h1 | h1
          · have h2 : m.xs = bare true := congrArg Prod.snd h1
            rw [h2]
            exact inoAt_ok (fun x hx => by rw [List.mem_singleton.1 hx]; exact ⟨fun i j a b _ h => by simp at h, rfl, by simp⟩) i
          · obtain ⟨t, ht, e⟩ := stk_mem h1
            have h2 := T.ok_all (HZ.out t ht) (List.all_eq_true.1 HOK.out t ht)
            have e2 : m.xs = t.rows 0 := e
            rw [e2]
            exact inoAt_ok (rows_ok t h2.1 h2.2 0) i⟩
        have FS : Av (ms.length = l.length ∧ ms.length ≤ 100) := ⟨MM.out.1, by have := MM.out.1; omega⟩
        have FR : Av (ms7t.length = l.length ∧ ms7t.length ≤ 100) := ⟨HV.out.1, by have := HV.out.1; omega⟩
        have F7 : Av ((m7h :: ms7t).length = n7 ∧ (m7h :: ms7t).length ≤ 100) := ⟨M7.out.1, by have := HV.out.1; simp; omega⟩
        have F9 : Av (ms9.length = n9 ∧ ms9.length ≤ 100) := ⟨M9.out.1, by have := M9.out.1; have := HN7.out.2.2.1; omega⟩
        generalize hM7 : (m7h :: ms7t) = ms7 at *
        clear hM7 M7 M9 HN7 MM HV
        generalize hSS : (stk l).map (·.2) = S at *
        have HSL : Av (S.length ≤ 8) := ⟨by rw [← hSS, List.length_map, stk_len]; omega⟩
        clear hSS
        go_wp2_with fail
        go_loopw [92] (fun s92 wr => ∃ j : Nat, j ≤ ns.length ∧ s92 = .int .i64 j ∧ Bel w11 wr) (fun s92 _ => ns.length - (intOf s92).toNat)
        case atStart => exact ⟨0, Nat.zero_le _, rfl, Below.refl _ _⟩
        case round =>
          obtain ⟨j, hj, rfl, hb⟩ := hrel
          have HB := Av.mk hb
          have HBR : Av (Bel w wr) := ⟨below_then HB11.out (Below.size HB11.out) hb⟩
          clear hb
          by_cases hlt : j < ns.length
          case neg =>
            obtain rfl : j = ns.length := by omega
            go_wp2_with fail
            go_ret
            exact ⟨rfl, HBR.out⟩
          obtain ⟨s, hs⟩ : ∃ s, ns[j]? = some s := ⟨_, List.getElem?_eq_getElem hlt⟩
          obtain ⟨bs, os, rfl, _, hbl, hcc, c0, -⟩ := (HNM.out.grow HB.out).str hs
          clear hs
          by_cases h100 : s.size ≤ 100
          case neg =>
            have t9 : decide ((100 : Int) < (s.size : Int)) = true := by rw [decide_eq_true_eq]; omega
            go_wp2_with fail
            go_ret
            exact ⟨rfl, HBR.out⟩
          have t9 : decide ((100 : Int) < (s.size : Int)) = false := by rw [decide_eq_false_iff_not]; omega
          obtain ⟨⟨Fk, Fl, Fi⟩, hF⟩ : ∃ F, seenL S s (rootP (rootN S)) Fd.zero = F := ⟨_, rfl⟩
          obtain ⟨⟨Gk, Gl, Gi⟩, hG⟩ : ∃ F, seenL (bare false :: S) s (rootP (rootN (bare false :: S))) Fd.zero = F := ⟨_, rfl⟩
          obtain ⟨⟨Uk, Ul, Ui⟩, hU⟩ : ∃ F, seenL (bare true :: S) s (rootP (rootN (bare true :: S))) Fd.zero = F := ⟨_, rfl⟩
          have hup := upper_law S s
          have hhi := hidden_law S s
          have hlv := root_lv S s
          rw [hF, hG] at hup
          rw [hU] at hhi
          rw [hF] at hlv
          simp only at hlv
          have hFl : Fl ≤ 8 := by have := HSL.out; omega
          obtain rfl : Gk = Fk := hup.1
          have HUP := Av.mk hup.2
          obtain rfl : Uk = 0 := congrArg Fd.kind hhi
          have FHS : Av (seenL (ms.map Mt.xs) s (rootP (rootN (ms.map Mt.xs))) Fd.zero = ⟨Gk, Fl, Fi⟩) := ⟨by rw [XS.out]; exact hF⟩
          have FHR : Av (seenL (ms7t.map Mt.xs) s (rootP (rootN (ms7t.map Mt.xs))) Fd.zero = ⟨Gk, Fl, Fi⟩) := ⟨by rw [XR.out]; exact hF⟩
          have FH7 : Av (seenL (ms7.map Mt.xs) s (rootP (rootN (ms7.map Mt.xs))) Fd.zero = ⟨Gk, Gl, Gi⟩) := ⟨by rw [X7.out]; exact hG⟩
          have FH9 : Av (seenL (ms9.map Mt.xs) s (rootP (rootN (ms9.map Mt.xs))) Fd.zero = ⟨0, Ul, Ui⟩) := ⟨by rw [X9.out]; exact hU⟩
          clear hF hG hU hup hhi hlv
          have HK1 := HB
          go_upto_region 18 with (fail)
          go_cut [15, 16] (fun sp sb wx => ∃ (gf : Nat) (Ad : Option Addr) (nd cd : Nat), sp = .pointer (some ⟨gf, 0, none⟩) ∧ sb = .bool (Gk != 0) ∧ Blk wx gf 45 #[.int .i64 Gk, .int .i64 (Fl : Int), .int .i64 (Fi : Int), .slice Ad nd cd] ∧ Bel wr wx)
          case first =>
            as_aux_lemma =>
            have GW := Av.mk (GS.out.keep (Keep.of_below (S := fun _ => False) HK1.out) (by simp))
            have SW := Av.mk (SS.out.grow HK1.out)
            obtain ⟨P, hP⟩ : ∃ P, rootP (rootN (ms.map Mt.xs)) = P := ⟨_, rfl⟩
            have hpl : P.length ≤ 100 := by
              rw [← hP, rootP_len]
              have h1 := rootN_le (ms.map Mt.xs)
              have h2 := FS.out.2
              rw [List.length_map] at h1
              omega
            have hF : seenL (ms.map Mt.xs) s P Fd.zero = ⟨Gk, Fl, Fi⟩ := by rw [← hP]; exact FHS.out
            have HRT : Av (∀ W, Bel wr W → Calls Tryd.prog 15 #[.agg #[.slice As l.length cs, .int .i64 (l.length : Int)]] W (fun e w' => ∃ Ap cp, e = .returned (.slice Ap P.length cp) ∧ PlAt w' Ap cp P ∧ Bel W w' ∧ w'.cell? ⟨g5, 0, none⟩ = some (.slice As l.length cs) ∧ w'.cell? ⟨g5, 1, none⟩ = some (.int .i64 (l.length : Int)))) := ⟨fun W hW => by
              have h1 := root_calls (SW.out.grow hW) (l.length : Int) FS.out.2
              rw [FS.out.1, hP] at h1
              refine h1.mono ?_
              rintro e w' ⟨Ap, cp, he, hp, hb⟩
              have hy := (GW.out.keep (Keep.of_below (S := fun _ => False) hW) (by simp)).keep (Keep.of_below (S := fun _ => False) hb) (by simp)
              exact ⟨Ap, cp, he, hp, hb, hy.cell 0, hy.cell 1⟩⟩
            have HLK : Av (∀ W Ap cp, Bel wr W → PlAt W Ap cp P → Calls Tryd.prog 14 #[.agg #[.slice As l.length cs, .int .i64 (l.length : Int)], .slice Ap P.length cp, .string s] W (fun e w' => ∃ Ad nd cd, e = .returned (.tuple #[.agg #[.int .i64 Gk, .int .i64 (Fl : Int), .int .i64 (Fi : Int), .slice Ad nd cd], .bool (Gk != 0)]) ∧ Bel W w' ∧ w'.cell? ⟨g5, 0, none⟩ = some (.slice As l.length cs) ∧ w'.cell? ⟨g5, 1, none⟩ = some (.int .i64 (l.length : Int)))) := ⟨fun W Ap cp hW hp => by
              have h1 := look_calls (SW.out.grow hW) OS.out (l.length : Int) hp hpl s
              rw [FS.out.1, hF] at h1
              refine h1.mono ?_
              rintro e w' ⟨Ad, nd, cd, he, hb⟩
              have hy := (GW.out.keep (Keep.of_below (S := fun _ => False) hW) (by simp)).keep (Keep.of_below (S := fun _ => False) hb) (by simp)
              exact ⟨Ad, nd, cd, he, hb, hy.cell 0, hy.cell 1⟩⟩
            have y0 := GW.out.cell 0
            have y1 := GW.out.cell 1
            have ly := GW.out.lt
            simp at y0 y1
            clear hpl hF
            try clear I33; try clear HA; try clear HI; try clear HZ; try clear HNS; try clear hl8; try clear HOK; try clear h20; try clear hl7; try clear t8; try clear HNM; try clear XS; try clear XR; try clear X7; try clear X9; try clear OS; try clear OR; try clear O7; try clear O9; try clear FS; try clear FR; try clear F7; try clear F9; try clear HSL; try clear HB11; try clear GS; try clear GR; try clear G7; try clear G9; try clear SS; try clear SR; try clear S7; try clear S9; try clear HB; try clear HBR; try clear hbl; try clear hcc; try clear c0; try clear h100; try clear t9; try clear HUP; try clear FHS; try clear FHR; try clear FH7; try clear FH9; try clear HK1; try clear HK2; try clear HK3; try clear HK4; try clear hFl; try clear hj; try clear hlt; try clear B1; try clear B1'; try clear B2; try clear B2'; try clear SW; try clear hP; try clear h8
            go_region_held3 (fun W => W.cell? ⟨g5, 0, none⟩ = some (.slice As l.length cs) ∧ W.cell? ⟨g5, 1, none⟩ = some (.int .i64 (l.length : Int))) (first | (exact ⟨by assumption, by assumption⟩) | (exact ⟨(GE.out.keep (four_set XE.out _ _ _ _).2 hne).cell 0, (GE.out.keep (four_set XE.out _ _ _ _).2 hne).cell 1⟩) | go_keep)
              (first
              | (go_at_call 14
                 have hX := X15.out
                 refine Calls.mono (HLK.out wa Ap cp HBa.out HPL.out) ?_
                 rintro e wb ⟨Ad, nd, cd, rfl, hbb, hc0, hc1⟩
                 have HBb : Av (Bel wr wb) := ⟨below_then HBa.out (Below.size HBa.out) hbb⟩
                 have XE := Av.mk (hX.keep (Keep.of_below (S := fun _ => False) hbb) (by simp))
                 have z0 := XE.out.cell 0
                 have z1 := XE.out.cell 1
                 have z2 := XE.out.cell 2
                 have z3 := XE.out.cell 3
                 have q0 := XE.out.frozen 0
                 have q1 := XE.out.frozen 1
                 have q2 := XE.out.frozen 2
                 have q3 := XE.out.frozen 3
                 have lz := XE.out.lt
                 simp at z0 z1 z2 z3
                 have GE := Av.mk (GW.out.keep (Keep.of_below (S := fun _ => False) HBb.out) (by simp))
                 have hne : ¬ g5 = wr.heap.size := by have := GW.out.lt; omega
                 clear hbb hX)
              | (go_at_call 14
                 with_reducible show Calls Tryd.prog 14 _ wa _
                 refine Calls.mono (HLK.out wa Ap cp HBa.out HPL.out) ?_
                 rintro e wb ⟨Ad, nd, cd, rfl, hbb, hc0, hc1⟩
                 have HBb : Av (Bel wr wb) := ⟨below_then HBa.out (Below.size HBa.out) hbb⟩
                 clear hbb)
              | (go_at_call 14
                 refine Calls.mono (HLK.out _ Ap cp (HBa.out.alloc (Below.size HBa.out) _) (HPL.out.grow (below_alloc (Below.refl _ wa) _))) ?_
                 rintro e wb ⟨Ad, nd, cd, rfl, hbb, hc0, hc1⟩
                 have HBb : Av (Bel wr wb) := ⟨below_then (HBa.out.alloc (Below.size HBa.out) _) (by have := Below.size HBa.out; simp; omega) hbb⟩
                 have XE := Av.mk ((Blk.new wa 45 #[.int .i64 0, .int .i64 0, .int .i64 0, .slice none 0 0]).keep (Keep.of_below (S := fun _ => False) hbb) (by simp))
                 have z0 := XE.out.cell 0
                 have z1 := XE.out.cell 1
                 have z2 := XE.out.cell 2
                 have z3 := XE.out.cell 3
                 have q0 := XE.out.frozen 0
                 have q1 := XE.out.frozen 1
                 have q2 := XE.out.frozen 2
                 have q3 := XE.out.frozen 3
                 have lz := XE.out.lt
                 simp at z0 z1 z2 z3
                 have GE := Av.mk (GW.out.keep (Keep.of_below (S := fun _ => False) HBb.out) (by simp))
                 have hne : ¬ g5 = wa.heap.size := by have := GW.out.lt; have := Below.size HBa.out; omega
                 clear hbb)
              | (go_at_call 15
                 with_reducible show Calls Tryd.prog 15 _ (wr.drew) _
                 refine Calls.mono (HRT.out _ (bel_drew wr)) ?_
                 rintro e wa ⟨Ap, cp, rfl, hpl, hba, ha0, ha1⟩
                 have HBa : Av (Bel wr wa) := ⟨below_then (bel_drew wr) (Below.size (bel_drew wr)) hba⟩
                 have HPL := Av.mk hpl
                 clear hba hpl)
              | (go_at_call 15
                 refine Calls.mono (HRT.out _ (bel_alloc_drew wr _)) ?_
                 rintro e wa ⟨Ap, cp, rfl, hpl, hba, ha0, ha1⟩
                 have HBa : Av (Bel wr wa) := ⟨below_then (bel_alloc_drew wr _) (Below.size (bel_alloc_drew wr _)) hba⟩
                 have HPL := Av.mk hpl
                 have X15 := Av.mk ((Blk.new wr 45 #[.int .i64 0, .int .i64 0, .int .i64 0, .slice none 0 0]).drew.keep (Keep.of_below (S := fun _ => False) hba) (by simp))
                 clear hba hpl))
            all_goals
              go_wp2_with fail
              go_meet
              first
              | (have h4 := four_set XE.out (.int .i64 Gk) (.int .i64 (Fl : Int)) (.int .i64 (Fi : Int)) (.slice Ad nd cd)
                 exact ⟨_, Ad, nd, cd, rfl, rfl, h4.1, four_bel HBb.out h4.2 (by first | exact Nat.le_refl _ | exact Below.size HBa.out)⟩)
              | exact ⟨_, Ad, nd, cd, rfl, rfl, Blk.new wb 45 _, HBb.out.alloc (Below.size HBb.out) _⟩
          case rest =>
            obtain ⟨f1, Ad1, nd1, cd1, rfl, rfl, hbk, hbc⟩ := hcut
            obtain ⟨w12, rfl⟩ : ∃ w12, w12 = wc := ⟨_, rfl⟩
            have HK2 : Av (Bel w11 w12) := ⟨below_then HK1.out (Below.size HK1.out) hbc⟩
            have B1 := Av.mk hbk
            clear hbk hbc
            go_upto_region 19 with (fail)
            go_cut [17, 18] (fun sp sb wx => ∃ (gf : Nat) (Ad : Option Addr) (nd cd : Nat), sp = .pointer (some ⟨gf, 0, none⟩) ∧ sb = .bool (Gk != 0) ∧ Blk wx gf 45 #[.int .i64 Gk, .int .i64 (Gl : Int), .int .i64 (Gi : Int), .slice Ad nd cd] ∧ Bel w12 wx)
            case first =>
              as_aux_lemma =>
              have GW := Av.mk (G7.out.keep (Keep.of_below (S := fun _ => False) HK2.out) (by simp))
              have SW := Av.mk (S7.out.grow HK2.out)
              obtain ⟨P, hP⟩ : ∃ P, rootP (rootN (ms7.map Mt.xs)) = P := ⟨_, rfl⟩
              have hpl : P.length ≤ 100 := by
                rw [← hP, rootP_len]
                have h1 := rootN_le (ms7.map Mt.xs)
                have h2 := F7.out.2
                rw [List.length_map] at h1
                omega
              have hF : seenL (ms7.map Mt.xs) s P Fd.zero = ⟨Gk, Gl, Gi⟩ := by rw [← hP]; exact FH7.out
              have HRT : Av (∀ W, Bel w12 W → Calls Tryd.prog 15 #[.agg #[.slice A7 n7 c7, .int .i64 m7]] W (fun e w' => ∃ Ap cp, e = .returned (.slice Ap P.length cp) ∧ PlAt w' Ap cp P ∧ Bel W w' ∧ w'.cell? ⟨g7, 0, none⟩ = some (.slice A7 n7 c7) ∧ w'.cell? ⟨g7, 1, none⟩ = some (.int .i64 m7))) := ⟨fun W hW => by
                have h1 := root_calls (SW.out.grow hW) m7 F7.out.2
                rw [F7.out.1, hP] at h1
                refine h1.mono ?_
                rintro e w' ⟨Ap, cp, he, hp, hb⟩
                have hy := (GW.out.keep (Keep.of_below (S := fun _ => False) hW) (by simp)).keep (Keep.of_below (S := fun _ => False) hb) (by simp)
                exact ⟨Ap, cp, he, hp, hb, hy.cell 0, hy.cell 1⟩⟩
              have HLK : Av (∀ W Ap cp, Bel w12 W → PlAt W Ap cp P → Calls Tryd.prog 14 #[.agg #[.slice A7 n7 c7, .int .i64 m7], .slice Ap P.length cp, .string s] W (fun e w' => ∃ Ad nd cd, e = .returned (.tuple #[.agg #[.int .i64 Gk, .int .i64 (Gl : Int), .int .i64 (Gi : Int), .slice Ad nd cd], .bool (Gk != 0)]) ∧ Bel W w' ∧ w'.cell? ⟨g7, 0, none⟩ = some (.slice A7 n7 c7) ∧ w'.cell? ⟨g7, 1, none⟩ = some (.int .i64 m7))) := ⟨fun W Ap cp hW hp => by
                have h1 := look_calls (SW.out.grow hW) O7.out m7 hp hpl s
                rw [F7.out.1, hF] at h1
                refine h1.mono ?_
                rintro e w' ⟨Ad, nd, cd, he, hb⟩
                have hy := (GW.out.keep (Keep.of_below (S := fun _ => False) hW) (by simp)).keep (Keep.of_below (S := fun _ => False) hb) (by simp)
                exact ⟨Ad, nd, cd, he, hb, hy.cell 0, hy.cell 1⟩⟩
              have y0 := GW.out.cell 0
              have y1 := GW.out.cell 1
              have ly := GW.out.lt
              simp at y0 y1
              clear hpl hF
              try clear I33; try clear HA; try clear HI; try clear HZ; try clear HNS; try clear hl8; try clear HOK; try clear h20; try clear hl7; try clear t8; try clear HNM; try clear XS; try clear XR; try clear X7; try clear X9; try clear OS; try clear OR; try clear O7; try clear O9; try clear FS; try clear FR; try clear F7; try clear F9; try clear HSL; try clear HB11; try clear GS; try clear GR; try clear G7; try clear G9; try clear SS; try clear SR; try clear S7; try clear S9; try clear HB; try clear HBR; try clear hbl; try clear hcc; try clear c0; try clear h100; try clear t9; try clear HUP; try clear FHS; try clear FHR; try clear FH7; try clear FH9; try clear HK1; try clear HK2; try clear HK3; try clear HK4; try clear hFl; try clear hj; try clear hlt; try clear B1; try clear B1'; try clear B2; try clear B2'; try clear SW; try clear hP; try clear h8
              go_region_held3 (fun W => W.cell? ⟨g7, 0, none⟩ = some (.slice A7 n7 c7) ∧ W.cell? ⟨g7, 1, none⟩ = some (.int .i64 m7)) (first | (exact ⟨by assumption, by assumption⟩) | (exact ⟨(GE.out.keep (four_set XE.out _ _ _ _).2 hne).cell 0, (GE.out.keep (four_set XE.out _ _ _ _).2 hne).cell 1⟩) | go_keep)
                (first
                | (go_at_call 14
                   have hX := X15.out
                   refine Calls.mono (HLK.out wa Ap cp HBa.out HPL.out) ?_
                   rintro e wb ⟨Ad, nd, cd, rfl, hbb, hc0, hc1⟩
                   have HBb : Av (Bel w12 wb) := ⟨below_then HBa.out (Below.size HBa.out) hbb⟩
                   have XE := Av.mk (hX.keep (Keep.of_below (S := fun _ => False) hbb) (by simp))
                   have z0 := XE.out.cell 0
                   have z1 := XE.out.cell 1
                   have z2 := XE.out.cell 2
                   have z3 := XE.out.cell 3
                   have q0 := XE.out.frozen 0
                   have q1 := XE.out.frozen 1
                   have q2 := XE.out.frozen 2
                   have q3 := XE.out.frozen 3
                   have lz := XE.out.lt
                   simp at z0 z1 z2 z3
                   have GE := Av.mk (GW.out.keep (Keep.of_below (S := fun _ => False) HBb.out) (by simp))
                   have hne : ¬ g7 = w12.heap.size := by have := GW.out.lt; omega
                   clear hbb hX)
                | (go_at_call 14
                   with_reducible show Calls Tryd.prog 14 _ wa _
                   refine Calls.mono (HLK.out wa Ap cp HBa.out HPL.out) ?_
                   rintro e wb ⟨Ad, nd, cd, rfl, hbb, hc0, hc1⟩
                   have HBb : Av (Bel w12 wb) := ⟨below_then HBa.out (Below.size HBa.out) hbb⟩
                   clear hbb)
                | (go_at_call 14
                   refine Calls.mono (HLK.out _ Ap cp (HBa.out.alloc (Below.size HBa.out) _) (HPL.out.grow (below_alloc (Below.refl _ wa) _))) ?_
                   rintro e wb ⟨Ad, nd, cd, rfl, hbb, hc0, hc1⟩
                   have HBb : Av (Bel w12 wb) := ⟨below_then (HBa.out.alloc (Below.size HBa.out) _) (by have := Below.size HBa.out; simp; omega) hbb⟩
                   have XE := Av.mk ((Blk.new wa 45 #[.int .i64 0, .int .i64 0, .int .i64 0, .slice none 0 0]).keep (Keep.of_below (S := fun _ => False) hbb) (by simp))
                   have z0 := XE.out.cell 0
                   have z1 := XE.out.cell 1
                   have z2 := XE.out.cell 2
                   have z3 := XE.out.cell 3
                   have q0 := XE.out.frozen 0
                   have q1 := XE.out.frozen 1
                   have q2 := XE.out.frozen 2
                   have q3 := XE.out.frozen 3
                   have lz := XE.out.lt
                   simp at z0 z1 z2 z3
                   have GE := Av.mk (GW.out.keep (Keep.of_below (S := fun _ => False) HBb.out) (by simp))
                   have hne : ¬ g7 = wa.heap.size := by have := GW.out.lt; have := Below.size HBa.out; omega
                   clear hbb)
                | (go_at_call 15
                   with_reducible show Calls Tryd.prog 15 _ (w12.drew) _
                   refine Calls.mono (HRT.out _ (bel_drew w12)) ?_
                   rintro e wa ⟨Ap, cp, rfl, hpl, hba, ha0, ha1⟩
                   have HBa : Av (Bel w12 wa) := ⟨below_then (bel_drew w12) (Below.size (bel_drew w12)) hba⟩
                   have HPL := Av.mk hpl
                   clear hba hpl)
                | (go_at_call 15
                   refine Calls.mono (HRT.out _ (bel_alloc_drew w12 _)) ?_
                   rintro e wa ⟨Ap, cp, rfl, hpl, hba, ha0, ha1⟩
                   have HBa : Av (Bel w12 wa) := ⟨below_then (bel_alloc_drew w12 _) (Below.size (bel_alloc_drew w12 _)) hba⟩
                   have HPL := Av.mk hpl
                   have X15 := Av.mk ((Blk.new w12 45 #[.int .i64 0, .int .i64 0, .int .i64 0, .slice none 0 0]).drew.keep (Keep.of_below (S := fun _ => False) hba) (by simp))
                   clear hba hpl))
              all_goals
                go_wp2_with fail
                go_meet
                first
                | (have h4 := four_set XE.out (.int .i64 Gk) (.int .i64 (Gl : Int)) (.int .i64 (Gi : Int)) (.slice Ad nd cd)
                   exact ⟨_, Ad, nd, cd, rfl, rfl, h4.1, four_bel HBb.out h4.2 (by first | exact Nat.le_refl _ | exact Below.size HBa.out)⟩)
                | exact ⟨_, Ad, nd, cd, rfl, rfl, Blk.new wb 45 _, HBb.out.alloc (Below.size HBb.out) _⟩
            case rest =>
              obtain ⟨f2, Ad2, nd2, cd2, rfl, rfl, hbk, hbc⟩ := hcut
              obtain ⟨w13, rfl⟩ : ∃ w13, w13 = wc := ⟨_, rfl⟩
              have HK3 : Av (Bel w11 w13) := ⟨below_then HK2.out (Below.size HK2.out) hbc⟩
              have B2 := Av.mk hbk
              have B1' := Av.mk (B1.out.keep (Keep.of_below (S := fun _ => False) hbc) (by simp))
              clear hbk hbc B1
              go_upto_region 20 with (fail)
              go_cut [19, 20] (fun sp sb wx => ∃ (gf : Nat) (Ad : Option Addr) (nd cd : Nat), sp = .pointer (some ⟨gf, 0, none⟩) ∧ sb = .bool ((0 : Int) != 0) ∧ Blk wx gf 45 #[.int .i64 (0 : Int), .int .i64 (Ul : Int), .int .i64 (Ui : Int), .slice Ad nd cd] ∧ Bel w13 wx)
              case first =>
                as_aux_lemma =>
                have GW := Av.mk (G9.out.keep (Keep.of_below (S := fun _ => False) HK3.out) (by simp))
                have SW := Av.mk (S9.out.grow HK3.out)
                obtain ⟨P, hP⟩ : ∃ P, rootP (rootN (ms9.map Mt.xs)) = P := ⟨_, rfl⟩
                have hpl : P.length ≤ 100 := by
                  rw [← hP, rootP_len]
                  have h1 := rootN_le (ms9.map Mt.xs)
                  have h2 := F9.out.2
                  rw [List.length_map] at h1
                  omega
                have hF : seenL (ms9.map Mt.xs) s P Fd.zero = ⟨(0 : Int), Ul, Ui⟩ := by rw [← hP]; exact FH9.out
                have HRT : Av (∀ W, Bel w13 W → Calls Tryd.prog 15 #[.agg #[.slice A9 n9 c9, .int .i64 m9]] W (fun e w' => ∃ Ap cp, e = .returned (.slice Ap P.length cp) ∧ PlAt w' Ap cp P ∧ Bel W w' ∧ w'.cell? ⟨g9, 0, none⟩ = some (.slice A9 n9 c9) ∧ w'.cell? ⟨g9, 1, none⟩ = some (.int .i64 m9))) := ⟨fun W hW => by
                  have h1 := root_calls (SW.out.grow hW) m9 F9.out.2
                  rw [F9.out.1, hP] at h1
                  refine h1.mono ?_
                  rintro e w' ⟨Ap, cp, he, hp, hb⟩
                  have hy := (GW.out.keep (Keep.of_below (S := fun _ => False) hW) (by simp)).keep (Keep.of_below (S := fun _ => False) hb) (by simp)
                  exact ⟨Ap, cp, he, hp, hb, hy.cell 0, hy.cell 1⟩⟩
                have HLK : Av (∀ W Ap cp, Bel w13 W → PlAt W Ap cp P → Calls Tryd.prog 14 #[.agg #[.slice A9 n9 c9, .int .i64 m9], .slice Ap P.length cp, .string s] W (fun e w' => ∃ Ad nd cd, e = .returned (.tuple #[.agg #[.int .i64 (0 : Int), .int .i64 (Ul : Int), .int .i64 (Ui : Int), .slice Ad nd cd], .bool ((0 : Int) != 0)]) ∧ Bel W w' ∧ w'.cell? ⟨g9, 0, none⟩ = some (.slice A9 n9 c9) ∧ w'.cell? ⟨g9, 1, none⟩ = some (.int .i64 m9))) := ⟨fun W Ap cp hW hp => by
                  have h1 := look_calls (SW.out.grow hW) O9.out m9 hp hpl s
                  rw [F9.out.1, hF] at h1
                  refine h1.mono ?_
                  rintro e w' ⟨Ad, nd, cd, he, hb⟩
                  have hy := (GW.out.keep (Keep.of_below (S := fun _ => False) hW) (by simp)).keep (Keep.of_below (S := fun _ => False) hb) (by simp)
                  exact ⟨Ad, nd, cd, he, hb, hy.cell 0, hy.cell 1⟩⟩
                have y0 := GW.out.cell 0
                have y1 := GW.out.cell 1
                have ly := GW.out.lt
                simp at y0 y1
                clear hpl hF
                try clear I33; try clear HA; try clear HI; try clear HZ; try clear HNS; try clear hl8; try clear HOK; try clear h20; try clear hl7; try clear t8; try clear HNM; try clear XS; try clear XR; try clear X7; try clear X9; try clear OS; try clear OR; try clear O7; try clear O9; try clear FS; try clear FR; try clear F7; try clear F9; try clear HSL; try clear HB11; try clear GS; try clear GR; try clear G7; try clear G9; try clear SS; try clear SR; try clear S7; try clear S9; try clear HB; try clear HBR; try clear hbl; try clear hcc; try clear c0; try clear h100; try clear t9; try clear HUP; try clear FHS; try clear FHR; try clear FH7; try clear FH9; try clear HK1; try clear HK2; try clear HK3; try clear HK4; try clear hFl; try clear hj; try clear hlt; try clear B1; try clear B1'; try clear B2; try clear B2'; try clear SW; try clear hP; try clear h8
                go_region_held3 (fun W => W.cell? ⟨g9, 0, none⟩ = some (.slice A9 n9 c9) ∧ W.cell? ⟨g9, 1, none⟩ = some (.int .i64 m9)) (first | (exact ⟨by assumption, by assumption⟩) | (exact ⟨(GE.out.keep (four_set XE.out _ _ _ _).2 hne).cell 0, (GE.out.keep (four_set XE.out _ _ _ _).2 hne).cell 1⟩) | go_keep)
                  (first
                  | (go_at_call 14
                     have hX := X15.out
                     refine Calls.mono (HLK.out wa Ap cp HBa.out HPL.out) ?_
                     rintro e wb ⟨Ad, nd, cd, rfl, hbb, hc0, hc1⟩
                     have HBb : Av (Bel w13 wb) := ⟨below_then HBa.out (Below.size HBa.out) hbb⟩
                     have XE := Av.mk (hX.keep (Keep.of_below (S := fun _ => False) hbb) (by simp))
                     have z0 := XE.out.cell 0
                     have z1 := XE.out.cell 1
                     have z2 := XE.out.cell 2
                     have z3 := XE.out.cell 3
                     have q0 := XE.out.frozen 0
                     have q1 := XE.out.frozen 1
                     have q2 := XE.out.frozen 2
                     have q3 := XE.out.frozen 3
                     have lz := XE.out.lt
                     simp at z0 z1 z2 z3
                     have GE := Av.mk (GW.out.keep (Keep.of_below (S := fun _ => False) HBb.out) (by simp))
                     have hne : ¬ g9 = w13.heap.size := by have := GW.out.lt; omega
                     clear hbb hX)
                  | (go_at_call 14
                     with_reducible show Calls Tryd.prog 14 _ wa _
                     refine Calls.mono (HLK.out wa Ap cp HBa.out HPL.out) ?_
                     rintro e wb ⟨Ad, nd, cd, rfl, hbb, hc0, hc1⟩
                     have HBb : Av (Bel w13 wb) := ⟨below_then HBa.out (Below.size HBa.out) hbb⟩
                     clear hbb)
                  | (go_at_call 14
                     refine Calls.mono (HLK.out _ Ap cp (HBa.out.alloc (Below.size HBa.out) _) (HPL.out.grow (below_alloc (Below.refl _ wa) _))) ?_
                     rintro e wb ⟨Ad, nd, cd, rfl, hbb, hc0, hc1⟩
                     have HBb : Av (Bel w13 wb) := ⟨below_then (HBa.out.alloc (Below.size HBa.out) _) (by have := Below.size HBa.out; simp; omega) hbb⟩
                     have XE := Av.mk ((Blk.new wa 45 #[.int .i64 0, .int .i64 0, .int .i64 0, .slice none 0 0]).keep (Keep.of_below (S := fun _ => False) hbb) (by simp))
                     have z0 := XE.out.cell 0
                     have z1 := XE.out.cell 1
                     have z2 := XE.out.cell 2
                     have z3 := XE.out.cell 3
                     have q0 := XE.out.frozen 0
                     have q1 := XE.out.frozen 1
                     have q2 := XE.out.frozen 2
                     have q3 := XE.out.frozen 3
                     have lz := XE.out.lt
                     simp at z0 z1 z2 z3
                     have GE := Av.mk (GW.out.keep (Keep.of_below (S := fun _ => False) HBb.out) (by simp))
                     have hne : ¬ g9 = wa.heap.size := by have := GW.out.lt; have := Below.size HBa.out; omega
                     clear hbb)
                  | (go_at_call 15
                     with_reducible show Calls Tryd.prog 15 _ (w13.drew) _
                     refine Calls.mono (HRT.out _ (bel_drew w13)) ?_
                     rintro e wa ⟨Ap, cp, rfl, hpl, hba, ha0, ha1⟩
                     have HBa : Av (Bel w13 wa) := ⟨below_then (bel_drew w13) (Below.size (bel_drew w13)) hba⟩
                     have HPL := Av.mk hpl
                     clear hba hpl)
                  | (go_at_call 15
                     refine Calls.mono (HRT.out _ (bel_alloc_drew w13 _)) ?_
                     rintro e wa ⟨Ap, cp, rfl, hpl, hba, ha0, ha1⟩
                     have HBa : Av (Bel w13 wa) := ⟨below_then (bel_alloc_drew w13 _) (Below.size (bel_alloc_drew w13 _)) hba⟩
                     have HPL := Av.mk hpl
                     have X15 := Av.mk ((Blk.new w13 45 #[.int .i64 0, .int .i64 0, .int .i64 0, .slice none 0 0]).drew.keep (Keep.of_below (S := fun _ => False) hba) (by simp))
                     clear hba hpl))
                all_goals
                  go_wp2_with fail
                  go_meet
                  first
                  | (have h4 := four_set XE.out (.int .i64 (0 : Int)) (.int .i64 (Ul : Int)) (.int .i64 (Ui : Int)) (.slice Ad nd cd)
                     exact ⟨_, Ad, nd, cd, rfl, rfl, h4.1, four_bel HBb.out h4.2 (by first | exact Nat.le_refl _ | exact Below.size HBa.out)⟩)
                  | exact ⟨_, Ad, nd, cd, rfl, rfl, Blk.new wb 45 _, HBb.out.alloc (Below.size HBb.out) _⟩
              case rest =>
                obtain ⟨f3, Ad3, nd3, cd3, rfl, rfl, hbk, hbc⟩ := hcut
                obtain ⟨w14, rfl⟩ : ∃ w14, w14 = wc := ⟨_, rfl⟩
                have HK4 : Av (Bel w11 w14) := ⟨below_then HK3.out (Below.size HK3.out) hbc⟩
                have B2' := Av.mk (B2.out.keep (Keep.of_below (S := fun _ => False) hbc) (by simp))
                have B1 := Av.mk (B1'.out.keep (Keep.of_below (S := fun _ => False) hbc) (by simp))
                clear hbk hbc B1' B2
                go_upto_region 21 with (fail)
                go_cut [21, 22] (fun sp sb wx => ∃ (gf : Nat) (Ad : Option Addr) (nd cd : Nat), sp = .pointer (some ⟨gf, 0, none⟩) ∧ sb = .bool (Gk != 0) ∧ Blk wx gf 45 #[.int .i64 Gk, .int .i64 (Fl : Int), .int .i64 (Fi : Int), .slice Ad nd cd] ∧ Bel w14 wx)
                case first =>
                  as_aux_lemma =>
                  have GW := Av.mk (GR.out.keep (Keep.of_below (S := fun _ => False) HK4.out) (by simp))
                  have SW := Av.mk (SR.out.grow HK4.out)
                  obtain ⟨P, hP⟩ : ∃ P, rootP (rootN (ms7t.map Mt.xs)) = P := ⟨_, rfl⟩
                  have hpl : P.length ≤ 100 := by
                    rw [← hP, rootP_len]
                    have h1 := rootN_le (ms7t.map Mt.xs)
                    have h2 := FR.out.2
                    rw [List.length_map] at h1
                    omega
                  have hF : seenL (ms7t.map Mt.xs) s P Fd.zero = ⟨Gk, Fl, Fi⟩ := by rw [← hP]; exact FHR.out
                  have HRT : Av (∀ W, Bel w14 W → Calls Tryd.prog 15 #[.agg #[.slice Ar l.length cr, .int .i64 m7]] W (fun e w' => ∃ Ap cp, e = .returned (.slice Ap P.length cp) ∧ PlAt w' Ap cp P ∧ Bel W w' ∧ w'.cell? ⟨g11, 0, none⟩ = some (.slice Ar l.length cr) ∧ w'.cell? ⟨g11, 1, none⟩ = some (.int .i64 m7))) := ⟨fun W hW => by
                    have h1 := root_calls (SW.out.grow hW) m7 FR.out.2
                    rw [FR.out.1, hP] at h1
                    refine h1.mono ?_
                    rintro e w' ⟨Ap, cp, he, hp, hb⟩
                    have hy := (GW.out.keep (Keep.of_below (S := fun _ => False) hW) (by simp)).keep (Keep.of_below (S := fun _ => False) hb) (by simp)
                    exact ⟨Ap, cp, he, hp, hb, hy.cell 0, hy.cell 1⟩⟩
                  have HLK : Av (∀ W Ap cp, Bel w14 W → PlAt W Ap cp P → Calls Tryd.prog 14 #[.agg #[.slice Ar l.length cr, .int .i64 m7], .slice Ap P.length cp, .string s] W (fun e w' => ∃ Ad nd cd, e = .returned (.tuple #[.agg #[.int .i64 Gk, .int .i64 (Fl : Int), .int .i64 (Fi : Int), .slice Ad nd cd], .bool (Gk != 0)]) ∧ Bel W w' ∧ w'.cell? ⟨g11, 0, none⟩ = some (.slice Ar l.length cr) ∧ w'.cell? ⟨g11, 1, none⟩ = some (.int .i64 m7))) := ⟨fun W Ap cp hW hp => by
                    have h1 := look_calls (SW.out.grow hW) OR.out m7 hp hpl s
                    rw [FR.out.1, hF] at h1
                    refine h1.mono ?_
                    rintro e w' ⟨Ad, nd, cd, he, hb⟩
                    have hy := (GW.out.keep (Keep.of_below (S := fun _ => False) hW) (by simp)).keep (Keep.of_below (S := fun _ => False) hb) (by simp)
                    exact ⟨Ad, nd, cd, he, hb, hy.cell 0, hy.cell 1⟩⟩
                  have y0 := GW.out.cell 0
                  have y1 := GW.out.cell 1
                  have ly := GW.out.lt
                  simp at y0 y1
                  clear hpl hF
                  try clear I33; try clear HA; try clear HI; try clear HZ; try clear HNS; try clear hl8; try clear HOK; try clear h20; try clear hl7; try clear t8; try clear HNM; try clear XS; try clear XR; try clear X7; try clear X9; try clear OS; try clear OR; try clear O7; try clear O9; try clear FS; try clear FR; try clear F7; try clear F9; try clear HSL; try clear HB11; try clear GS; try clear GR; try clear G7; try clear G9; try clear SS; try clear SR; try clear S7; try clear S9; try clear HB; try clear HBR; try clear hbl; try clear hcc; try clear c0; try clear h100; try clear t9; try clear HUP; try clear FHS; try clear FHR; try clear FH7; try clear FH9; try clear HK1; try clear HK2; try clear HK3; try clear HK4; try clear hFl; try clear hj; try clear hlt; try clear B1; try clear B1'; try clear B2; try clear B2'; try clear SW; try clear hP; try clear h8
                  go_region_held3 (fun W => W.cell? ⟨g11, 0, none⟩ = some (.slice Ar l.length cr) ∧ W.cell? ⟨g11, 1, none⟩ = some (.int .i64 m7)) (first | (exact ⟨by assumption, by assumption⟩) | (exact ⟨(GE.out.keep (four_set XE.out _ _ _ _).2 hne).cell 0, (GE.out.keep (four_set XE.out _ _ _ _).2 hne).cell 1⟩) | go_keep)
                    (first
                    | (go_at_call 14
                       have hX := X15.out
                       refine Calls.mono (HLK.out wa Ap cp HBa.out HPL.out) ?_
                       rintro e wb ⟨Ad, nd, cd, rfl, hbb, hc0, hc1⟩
                       have HBb : Av (Bel w14 wb) := ⟨below_then HBa.out (Below.size HBa.out) hbb⟩
                       have XE := Av.mk (hX.keep (Keep.of_below (S := fun _ => False) hbb) (by simp))
                       have z0 := XE.out.cell 0
                       have z1 := XE.out.cell 1
                       have z2 := XE.out.cell 2
                       have z3 := XE.out.cell 3
                       have q0 := XE.out.frozen 0
                       have q1 := XE.out.frozen 1
                       have q2 := XE.out.frozen 2
                       have q3 := XE.out.frozen 3
                       have lz := XE.out.lt
                       simp at z0 z1 z2 z3
                       have GE := Av.mk (GW.out.keep (Keep.of_below (S := fun _ => False) HBb.out) (by simp))
                       have hne : ¬ g11 = w14.heap.size := by have := GW.out.lt; omega
                       clear hbb hX)
                    | (go_at_call 14
                       with_reducible show Calls Tryd.prog 14 _ wa _
                       refine Calls.mono (HLK.out wa Ap cp HBa.out HPL.out) ?_
                       rintro e wb ⟨Ad, nd, cd, rfl, hbb, hc0, hc1⟩
                       have HBb : Av (Bel w14 wb) := ⟨below_then HBa.out (Below.size HBa.out) hbb⟩
                       clear hbb)
                    | (go_at_call 14
                       refine Calls.mono (HLK.out _ Ap cp (HBa.out.alloc (Below.size HBa.out) _) (HPL.out.grow (below_alloc (Below.refl _ wa) _))) ?_
                       rintro e wb ⟨Ad, nd, cd, rfl, hbb, hc0, hc1⟩
                       have HBb : Av (Bel w14 wb) := ⟨below_then (HBa.out.alloc (Below.size HBa.out) _) (by have := Below.size HBa.out; simp; omega) hbb⟩
                       have XE := Av.mk ((Blk.new wa 45 #[.int .i64 0, .int .i64 0, .int .i64 0, .slice none 0 0]).keep (Keep.of_below (S := fun _ => False) hbb) (by simp))
                       have z0 := XE.out.cell 0
                       have z1 := XE.out.cell 1
                       have z2 := XE.out.cell 2
                       have z3 := XE.out.cell 3
                       have q0 := XE.out.frozen 0
                       have q1 := XE.out.frozen 1
                       have q2 := XE.out.frozen 2
                       have q3 := XE.out.frozen 3
                       have lz := XE.out.lt
                       simp at z0 z1 z2 z3
                       have GE := Av.mk (GW.out.keep (Keep.of_below (S := fun _ => False) HBb.out) (by simp))
                       have hne : ¬ g11 = wa.heap.size := by have := GW.out.lt; have := Below.size HBa.out; omega
                       clear hbb)
                    | (go_at_call 15
                       with_reducible show Calls Tryd.prog 15 _ (w14.drew) _
                       refine Calls.mono (HRT.out _ (bel_drew w14)) ?_
                       rintro e wa ⟨Ap, cp, rfl, hpl, hba, ha0, ha1⟩
                       have HBa : Av (Bel w14 wa) := ⟨below_then (bel_drew w14) (Below.size (bel_drew w14)) hba⟩
                       have HPL := Av.mk hpl
                       clear hba hpl)
                    | (go_at_call 15
                       refine Calls.mono (HRT.out _ (bel_alloc_drew w14 _)) ?_
                       rintro e wa ⟨Ap, cp, rfl, hpl, hba, ha0, ha1⟩
                       have HBa : Av (Bel w14 wa) := ⟨below_then (bel_alloc_drew w14 _) (Below.size (bel_alloc_drew w14 _)) hba⟩
                       have HPL := Av.mk hpl
                       have X15 := Av.mk ((Blk.new w14 45 #[.int .i64 0, .int .i64 0, .int .i64 0, .slice none 0 0]).drew.keep (Keep.of_below (S := fun _ => False) hba) (by simp))
                       clear hba hpl))
                  all_goals
                    go_wp2_with fail
                    go_meet
                    first
                    | (have h4 := four_set XE.out (.int .i64 Gk) (.int .i64 (Fl : Int)) (.int .i64 (Fi : Int)) (.slice Ad nd cd)
                       exact ⟨_, Ad, nd, cd, rfl, rfl, h4.1, four_bel HBb.out h4.2 (by first | exact Nat.le_refl _ | exact Below.size HBa.out)⟩)
                    | exact ⟨_, Ad, nd, cd, rfl, rfl, Blk.new wb 45 _, HBb.out.alloc (Below.size HBb.out) _⟩
                case rest =>
                  obtain ⟨f4, Ad4, nd4, cd4, rfl, rfl, hbk, hbc⟩ := hcut
                  obtain ⟨w15, rfl⟩ : ∃ w15, w15 = wc := ⟨_, rfl⟩
                  have HK5 : Av (Bel w11 w15) := ⟨below_then HK4.out (Below.size HK4.out) hbc⟩
                  have B4 := Av.mk hbk
                  have B2 := Av.mk (B2'.out.keep (Keep.of_below (S := fun _ => False) hbc) (by simp))
                  have B1' := Av.mk (B1.out.keep (Keep.of_below (S := fun _ => False) hbc) (by simp))
                  clear hbk hbc B2' B1
                  have a0 := B1'.out.cell 0
                  have a1 := B1'.out.cell 1
                  have a2 := B1'.out.cell 2
                  have la := B1'.out.lt
                  have b0 := B2.out.cell 0
                  have b1 := B2.out.cell 1
                  have b2 := B2.out.cell 2
                  have lb := B2.out.lt
                  have d0 := B4.out.cell 0
                  have d1 := B4.out.cell 1
                  have d2 := B4.out.cell 2
                  have ld := B4.out.lt
                  simp at a0 a1 a2 b0 b1 b2 d0 d1 d2
                  by_cases hk0 : Gk = 0
                  · have tk : (Gk != 0) = false := by simpa using hk0
                    clear hk0
                    go_wp2_with fail
                    exact ⟨⟨j + 1, by omega, by go_num, HK5.out⟩, by simp [intOf]; omega⟩
                  · have tk : (Gk != 0) = true := by simpa using hk0
                    obtain ⟨hg1, hg2⟩ := HUP.out hk0
                    simp only at hg1 hg2
                    subst hg1
                    subst hg2
                    clear hk0
                    go_wp2_with fail
                    exact ⟨⟨j + 1, by omega, by go_num, HK5.out⟩, by simp [intOf]; omega⟩
end Go.Proofs.YtkmojgdjapfbbaaDoor
