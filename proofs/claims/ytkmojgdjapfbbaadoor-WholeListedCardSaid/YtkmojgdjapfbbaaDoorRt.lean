/- tree.right: the walk. -/
import Derived.Test.YtkmojgdjapfbbaaDoorRg
import Derived.Deep.DeepCutAuto
import Derived.Outline
namespace Go.Proofs.YtkmojgdjapfbbaaDoor
open Go.RowKit Go.Maps
set_option linter.unusedSimpArgs false
set_option linter.unusedVariables false

theorem retb2 {a b : Bool} {e : Ending} (h : a = b) (he : e = .returned (.bool b)) : e = .returned (.bool a) := by rw [he, h]
set_option maxRecDepth 100000 in
set_option maxHeartbeats 8000000 in
theorem right_calls (t : T) : Fit PnC PtC t → RgtC t := by
  induction t using T.ind with
  | h t ih =>
    intro hfit B w p depth left lf h hlf hL hl0 hl1 hd0 hd1
    have hzero := Av.mk (fun (w : World) (h : Rep B w p t) => zero_calls h)
    have hfitn : t.names.length ≤ 1000000000 ∧ t.items.length ≤ 1000000000 ∧ t.exts.length ≤ 1000000000 := by cases hfit; exact ⟨by assumption, by assumption, by assumption⟩
    have hfs : ∀ s ∈ t.names, PnC s := by cases hfit; assumption
    have hfg : t.kind = 3 → PtC t.target := by cases hfit; assumption
    have hfr : ∀ u ∈ t.items, Fit PnC PtC u := by cases hfit; assumption
    have hnames := Av.mk (fun (w : World) (h : Rep B w p t) => names_calls h hfitn.1 hfitn.2.1 hfs)
    have HIH : Av (∀ u ∈ t.items, RgtC u) := ⟨fun u hu => ih u hu (hfr u hu)⟩
    have HLF := Av.mk hlf
    have HG := Av.mk hfg
    have H := Av.mk h
    obtain ⟨An, cn, Ai, ci, Ae, ce, rfl⟩ := h.parts
    obtain ⟨hfa, hfb, hfc⟩ := hfitn
    obtain ⟨z, hz⟩ : ∃ z, t.zero = z := ⟨_, rfl⟩
    rw [hz] at hzero
    obtain ⟨nmo, hnm⟩ : ∃ b, t.namesOk = b := ⟨_, rfl⟩
    rw [hnm] at hnames
    obtain ⟨R, hR⟩ : ∃ R, t.rgt depth left = R := ⟨_, rfl⟩
    rw [hR]
    obtain ⟨k, o, ns, its, sz, ex, tg⟩ := t
    simp only [T.names, T.items, T.exts, T.kind, T.target, T.size, T.opq] at HIH HG hfa hfb hfc
    simp only [T.rgt] at hR
    rw [hz, hnm] at hR
    have HR := Av.mk hR
    clear ih hfit hfs hfg hfr h hlf hR hz hnm
    show Calls Tryd.prog 63 #[.agg #[.int .i64 k, .bool o, .slice An ns.length cn, .slice Ai its.length ci, .int .i64 sz, .slice Ae ex.length ce, .string tg], .int .i64 depth, .pointer (some ⟨lf, 0, none⟩)] w _
    have l0 := hL.cell 0
    have f0 := hL.frozen 0
    have ll := hL.lt
    simp at l0
    go_enter Tryd.func63, Tryd.ntmps63
    go_upto_region 2 with (fail)
    have K1 := Av.mk (((Keep.refl (fun k => k = lf) w).setCell (p := ⟨lf, 0, none⟩) (fun _ => rfl) (.int .i64 (left - 1))).alloc (.cells #[.int .i64 k, .bool o, .slice An ns.length cn, .slice Ai its.length ci, .int .i64 sz, .slice Ae ex.length ce, .string tg] 33))
    have L1 : Av (Blk ((w.setCell ⟨lf, 0, none⟩ (.int .i64 (left - 1))).alloc (.cells #[.int .i64 k, .bool o, .slice An ns.length cn, .slice Ai its.length ci, .int .i64 sz, .slice Ae ex.length ce, .string tg] 33)) lf 3 #[.int .i64 (left - 1)]) := ⟨by
      have := (hL.set_ 0 (.int .i64 (left - 1))).alloc (.cells #[.int .i64 k, .bool o, .slice An ns.length cn, .slice Ai its.length ci, .int .i64 sz, .slice Ae ex.length ce, .string tg] 33)
      simpa using this⟩
    have X1 : Av (Blk ((w.setCell ⟨lf, 0, none⟩ (.int .i64 (left - 1))).alloc (.cells #[.int .i64 k, .bool o, .slice An ns.length cn, .slice Ai its.length ci, .int .i64 sz, .slice Ae ex.length ce, .string tg] 33)) w.heap.size 33 #[.int .i64 k, .bool o, .slice An ns.length cn, .slice Ai its.length ci, .int .i64 sz, .slice Ae ex.length ce, .string tg]) := ⟨by
      have := Blk.new (w.setCell ⟨lf, 0, none⟩ (.int .i64 (left - 1))) 33 #[.int .i64 k, .bool o, .slice An ns.length cn, .slice Ai its.length ci, .int .i64 sz, .slice Ae ex.length ce, .string tg]
      rw [show (w.setCell ⟨lf, 0, none⟩ (.int .i64 (left - 1))).heap.size = w.heap.size from by simp [World.setCell]] at this
      exact this⟩
    have R1 := Av.mk (H.out.keep K1.out (fun k hk e => HLF.out k hk e))
    clear H hL l0 f0 ll
    generalize (w.setCell ⟨lf, 0, none⟩ (.int .i64 (left - 1))).alloc (.cells #[.int .i64 k, .bool o, .slice An ns.length cn, .slice Ai its.length ci, .int .i64 sz, .slice Ae ex.length ce, .string tg] 33) = w1 at *
    generalize w.heap.size = g at *
    have l1 := L1.out.cell 0
    have ll1 := L1.out.lt
    have c0 := X1.out.cell 0; have c1 := X1.out.cell 1; have c2 := X1.out.cell 2; have c3 := X1.out.cell 3; have c4 := X1.out.cell 4; have c5 := X1.out.cell 5; have c6 := X1.out.cell 6
    have lx := X1.out.lt
    simp at l1 c0 c1 c2 c3 c4 c5 c6
    by_cases h1 : left - 1 < 0
    · have HRR : Av (R = (false, left - 1)) := ⟨by rw [← HR.out, if_pos h1]⟩
      go_wp2_with fail
      go_ret
      rw [HRR.out]
      exact ⟨rfl, L1.out, K1.out⟩
    by_cases h2 : 15 < depth
    · have HRR : Av (R = (false, left - 1)) := ⟨by rw [← HR.out, if_neg h1, if_pos h2]⟩
      go_wp2_with fail
      go_ret
      rw [HRR.out]
      exact ⟨rfl, L1.out, K1.out⟩
    cases z
    case false =>
      have HRR : Av (R = (false, left - 1)) := ⟨by rw [← HR.out, if_neg h1, if_neg h2, if_pos rfl]⟩
      go_wp2_with fail
      refine (hzero.out w1 R1.out).mono ?_
      rintro e w2 ⟨rfl, hb⟩
      have K2 := Av.mk (K1.out.trans (Keep.of_below (S := fun _ => False) hb |>.mono (fun _ _ h => h.elim)))
      have L2 := Av.mk (L1.out.keep (Keep.of_below (S := fun _ => False) hb) (by simp))
      have X2 := Av.mk (X1.out.keep (Keep.of_below (S := fun _ => False) hb) (by simp))
      have R2 := Av.mk (R1.out.grow hb)
      clear hb c0 c1 c2 c3 c4 c5 c6 lx l1 ll1 K1 L1 X1 R1
      have l2 := L2.out.cell 0
      have ll2 := L2.out.lt
      have c0 := X2.out.cell 0; have c1 := X2.out.cell 1; have c2 := X2.out.cell 2; have c3 := X2.out.cell 3; have c4 := X2.out.cell 4; have c5 := X2.out.cell 5; have c6 := X2.out.cell 6
      have lx := X2.out.lt
      simp at l2 c0 c1 c2 c3 c4 c5 c6
      go_wp2_with fail
      go_ret
      rw [HRR.out]
      exact ⟨rfl, L2.out, K2.out⟩
    case true =>
      have HR2 : Av ((if k = 1 then (rX sz 0 ex, left - 1) else if k = 3 then (splitOk tg && decide (tg.size ≤ 256), left - 1) else if k = 4 then (true, left - 1) else if k = 2 then if nmo = false then (false, left - 1) else T.rgtL (depth + 1) (left - 1) its else (false, left - 1)) = R) := ⟨by
        have h := HR.out
        rw [if_neg h1, if_neg h2, if_neg (show ¬ (true = false) by simp)] at h
        exact h⟩
      clear HR
      go_wp2_with fail
      refine (hzero.out w1 R1.out).mono ?_
      rintro e w2 ⟨rfl, hb⟩
      have K2 := Av.mk (K1.out.trans (Keep.of_below (S := fun _ => False) hb |>.mono (fun _ _ h => h.elim)))
      have L2 := Av.mk (L1.out.keep (Keep.of_below (S := fun _ => False) hb) (by simp))
      have X2 := Av.mk (X1.out.keep (Keep.of_below (S := fun _ => False) hb) (by simp))
      have R2 := Av.mk (R1.out.grow hb)
      clear hb c0 c1 c2 c3 c4 c5 c6 lx l1 ll1 K1 L1 X1 R1
      have l2 := L2.out.cell 0
      have ll2 := L2.out.lt
      have c0 := X2.out.cell 0; have c1 := X2.out.cell 1; have c2 := X2.out.cell 2; have c3 := X2.out.cell 3; have c4 := X2.out.cell 4; have c5 := X2.out.cell 5; have c6 := X2.out.cell 6
      have lx := X2.out.lt
      simp at l2 c0 c1 c2 c3 c4 c5 c6
      by_cases k1 : k = 1
      · have HRR : Av (R = (rX sz 0 ex, left - 1)) := ⟨by rw [← HR2.out, if_pos k1]⟩
        have t1 : (k == 1) = true := by simpa using k1
        have HX := Av.mk (XRight_calls B sz ex Ae ce w2 R2.out.exts hfc)
        clear k1
        go_wp2_with fail
        refine HX.out.mono ?_
        rintro e w3 ⟨rfl, hb⟩
        have K3 := Av.mk (K2.out.trans ((Keep.of_below (S := fun _ => False) hb).mono (fun _ _ h => h.elim)))
        have L3 := Av.mk (L2.out.keep (Keep.of_below (S := fun _ => False) hb) (by simp))
        clear hb
        go_wp2_with fail
        go_ret
        rw [HRR.out]
        exact ⟨rfl, L3.out, K3.out⟩
      have t1 : (k == 1) = false := by simpa using k1
      by_cases k3 : k = 3
      · have HRR : Av (R = (splitOk tg && decide (tg.size ≤ 256), left - 1)) := ⟨by rw [← HR2.out, if_neg k1, if_pos k3]⟩
        have t3 : (k == 3) = true := by simpa using k3
        obtain ⟨hsp, htg⟩ := HG.out k3
        have HSP := Av.mk (hsp w2)
        clear k3 k1 hsp
        go_wp2_with fail
        refine HSP.out.mono ?_
        rintro e w3 ⟨As, sn, cs, rb, er, rfl, her, hb⟩
        have K3 := Av.mk (K2.out.trans ((Keep.of_below (S := fun _ => False) hb).mono (fun _ _ h => h.elim)))
        have L3 := Av.mk (L2.out.keep (Keep.of_below (S := fun _ => False) hb) (by simp))
        have X3 := Av.mk (X2.out.keep (Keep.of_below (S := fun _ => False) hb) (by simp))
        have HER := Av.mk her
        have d6 := X3.out.cell 6
        have lx3 := X3.out.lt
        simp at d6
        clear hb her c0 c1 c2 c3 c4 c5 c6 lx l2 ll2
        by_cases e0 : er = 0
        · have te : (er == 0) = true := by simpa using e0
          have HR3 : Av (R = (decide (tg.size ≤ 256), left - 1)) := ⟨by rw [HRR.out, HER.out, te]; simp⟩
          clear e0
          go_wp2_with fail
          go_ret
          rw [HR3.out]
          exact ⟨retb (by first | rfl | (apply decide_eq_decide.2; omega)), L3.out, K3.out⟩
        · have te : (er == 0) = false := by simpa using e0
          have HR3 : Av (R = (false, left - 1)) := ⟨by rw [HRR.out, HER.out, te]; simp⟩
          clear e0
          go_wp2_with fail
          go_ret
          rw [HR3.out]
          exact ⟨rfl, L3.out, K3.out⟩
      have t3 : (k == 3) = false := by simpa using k3
      by_cases k4 : k = 4
      · have HRR : Av (R = (true, left - 1)) := ⟨by rw [← HR2.out, if_neg k1, if_neg k3, if_pos k4]⟩
        have t4 : (k == 4) = true := by simpa using k4
        clear k4 k3 k1
        go_wp2_with fail
        go_ret
        rw [HRR.out]
        exact ⟨rfl, L2.out, K2.out⟩
      have t4 : (k == 4) = false := by simpa using k4
      by_cases k2 : k = 2
      · have t2 : (k == 2) = true := by simpa using k2
        cases nmo
        case false =>
          have HRR : Av (R = (false, left - 1)) := ⟨by rw [← HR2.out, if_neg k1, if_neg k3, if_neg k4, if_pos k2, if_pos rfl]⟩
          clear k4 k3 k2 k1
          go_wp2_with fail
          refine (hnames.out w2 R2.out).mono ?_
          rintro e w3 ⟨rfl, hb⟩
          have K3 := Av.mk (K2.out.trans ((Keep.of_below (S := fun _ => False) hb).mono (fun _ _ h => h.elim)))
          have L3 := Av.mk (L2.out.keep (Keep.of_below (S := fun _ => False) hb) (by simp))
          clear hb
          go_wp2_with fail
          go_ret
          rw [HRR.out]
          exact ⟨rfl, L3.out, K3.out⟩
        case true =>
          have HRR : Av (T.rgtL (depth + 1) (left - 1) its = R) := ⟨by rw [← HR2.out, if_neg k1, if_neg k3, if_neg k4, if_pos k2, if_neg (by simp)]⟩
          clear k4 k3 k2 k1
          go_wp2_with fail
          refine (hnames.out w2 R2.out).mono ?_
          rintro e w3 ⟨rfl, hb⟩
          have K3 := Av.mk (K2.out.trans ((Keep.of_below (S := fun _ => False) hb).mono (fun _ _ h => h.elim)))
          have L3 := Av.mk (L2.out.keep (Keep.of_below (S := fun _ => False) hb) (by simp))
          have X3 := Av.mk (X2.out.keep (Keep.of_below (S := fun _ => False) hb) (by simp))
          have R3 := Av.mk (R2.out.grow hb).items
          clear hb c0 c1 c2 c3 c4 c5 c6 lx l2 ll2 K2 L2 X2 R2
          have d3 := X3.out.cell 3
          have lx3 := X3.out.lt
          simp at d3
          go_wp2_with fail
          clear d3 lx3
          go_loopw [66] (fun i wr => ∃ (j : Nat) (lj : Int), j ≤ its.length ∧ i = .int .i64 j ∧ Blk wr lf 3 #[.int .i64 lj] ∧ Keep (fun k => k = lf) w3 wr ∧ Av (0 ≤ lj ∧ lj ≤ 5000 ∧ T.rgtL (depth + 1) lj (its.drop j) = R)) (fun i _ => its.length - (intOf i).toNat)
          case atStart => exact ⟨0, left - 1, Nat.zero_le _, rfl, L3.out, Keep.refl _ _, ⟨by omega, by omega, HRR.out⟩⟩
          case round =>
            obtain ⟨j, lj, hj, rfl, hlj, hkj, HX⟩ := hrel
            have LJ := Av.mk hlj
            have KJ := Av.mk hkj
            clear hlj hkj
            by_cases hlt : j < its.length
            · obtain ⟨u, hu⟩ : ∃ u, its[j]? = some u := ⟨_, List.getElem?_eq_getElem hlt⟩
              obtain ⟨b, off, q, rfl, hBb, hbl, hc, c0, c1, c2, c3, c4, c5, c6, hq⟩ := (R3.out.keep KJ.out (fun k hk e => HLF.out k hk e)).elem hu
              obtain ⟨Bn, dn, Bi, di, Be, de, rfl⟩ := hq.parts
              have HIu := Av.mk (HIH.out u (List.mem_of_getElem? hu))
              have HD := Av.mk (drop_at hu)
              have HQ := Av.mk hq
              have hx := HX.out.2.2
              rw [HD.out] at hx
              simp only [T.rgtL] at hx
              have HX2 := Av.mk hx
              have hx0 := HX.out.1
              have hx1 := HX.out.2.1
              clear hx hq hu
              obtain ⟨uk, uo, uns, uits, usz, uex, utg⟩ := u
              simp only [T.kind, T.opq, T.names, T.items, T.size, T.exts, T.target] at c0 c1 c2 c3 c4 c5 c6
              have ll := LJ.out.lt
              go_upto_region 18 with (fail)
              have hba := below_alloc (Below.refl _ wr) (.cells #[.int .i64 uk, .bool uo, .slice Bn uns.length dn, .slice Bi uits.length di, .int .i64 usz, .slice Be uex.length de, .string utg] 33)
              have K4 := Av.mk (KJ.out.alloc (.cells #[.int .i64 uk, .bool uo, .slice Bn uns.length dn, .slice Bi uits.length di, .int .i64 usz, .slice Be uex.length de, .string utg] 33))
              have L4 := Av.mk (LJ.out.alloc (.cells #[.int .i64 uk, .bool uo, .slice Bn uns.length dn, .slice Bi uits.length di, .int .i64 usz, .slice Be uex.length de, .string utg] 33))
              have Q4 := Av.mk (HQ.out.grow hba)
              have Y4 := Av.mk (Blk.new wr 33 #[.int .i64 uk, .bool uo, .slice Bn uns.length dn, .slice Bi uits.length di, .int .i64 usz, .slice Be uex.length de, .string utg])
              clear hba KJ LJ c0 c1 c2 c3 c4 c5 c6 ll
              generalize wr.alloc (.cells #[.int .i64 uk, .bool uo, .slice Bn uns.length dn, .slice Bi uits.length di, .int .i64 usz, .slice Be uex.length de, .string utg] 33) = w4 at *
              generalize wr.heap.size = gy at *
              have c0 := Y4.out.cell 0; have c1 := Y4.out.cell 1; have c2 := Y4.out.cell 2; have c3 := Y4.out.cell 3; have c4 := Y4.out.cell 4; have c5 := Y4.out.cell 5; have c6 := Y4.out.cell 6
              have lx := Y4.out.lt
              simp at c0 c1 c2 c3 c4 c5 c6
              have HCu := Av.mk (HIu.out B w4 _ (depth + 1) lj lf Q4.out (fun k hk => HLF.out k hk) L4.out hx0 hx1 (by omega) (by omega))
              have hbd := T.rgt_bound (.node uk uo uns uits usz uex utg) (depth + 1) lj
              obtain ⟨⟨r1, r2⟩, hr⟩ : ∃ r, T.rgt (depth + 1) lj (.node uk uo uns uits usz uex utg) = r := ⟨_, rfl⟩
              rw [hr] at HCu hbd HX2
              simp only at hbd HX2
              have HBD := Av.mk hbd
              clear hr hbd
              cases r1
              case false =>
                have HRF : Av (R = (false, r2)) := ⟨by rw [← HX2.out, if_neg (by simp)]⟩
                go_wp2_with fail
                refine HCu.out.mono ?_
                rintro e w5 ⟨rfl, hl5, hk5⟩
                have L5 := Av.mk hl5
                have K5 := Av.mk (K3.out.trans (K4.out.trans hk5))
                clear hl5 hk5
                go_wp2_with fail
                go_ret
                rw [HRF.out]
                exact ⟨rfl, L5.out, K5.out⟩
              case true =>
                have HRF : Av (T.rgtL (depth + 1) r2 (its.drop (j + 1)) = R) := ⟨by rw [← HX2.out, if_pos rfl]⟩
                have hb2 := HBD.out rfl
                go_wp2_with fail
                refine HCu.out.mono ?_
                rintro e w5 ⟨rfl, hl5, hk5⟩
                have L5 := Av.mk hl5
                have K5 := Av.mk (K4.out.trans hk5)
                clear hl5 hk5
                go_wp2_with fail
                go_roundw
                case rel => exact ⟨j + 1, r2, by omega, by go_num, L5.out, K5.out, ⟨hb2.1, by omega, HRF.out⟩⟩
                case measure => simp [intOf]; omega
            · obtain rfl : j = its.length := by omega
              have hx := HX.out.2.2
              rw [List.drop_length] at hx
              simp only [T.rgtL] at hx
              have HRF := Av.mk hx.symm
              clear hx
              go_wp2_with fail
              go_ret
              rw [HRF.out]
              exact ⟨rfl, LJ.out, K3.out.trans KJ.out⟩
      · have t2 : (k == 2) = false := by simpa using k2
        have HRR : Av (R = (false, left - 1)) := ⟨by rw [← HR2.out, if_neg k1, if_neg k3, if_neg k4, if_neg k2]⟩
        clear k4 k3 k2 k1
        go_wp2_with fail
        go_ret
        rw [HRR.out]
        exact ⟨rfl, L2.out, K2.out⟩
end Go.Proofs.YtkmojgdjapfbbaaDoor
