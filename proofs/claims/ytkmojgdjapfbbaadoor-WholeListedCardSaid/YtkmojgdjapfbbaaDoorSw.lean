/- socagelaw04.small: the walk. -/
import Derived.Test.YtkmojgdjapfbbaaDoorAl
import Derived.Deep.DeepCutAuto
import Derived.Outline
namespace Go.Proofs.YtkmojgdjapfbbaaDoor
open Go.RowKit Go.Maps
set_option linter.unusedSimpArgs false
set_option linter.unusedVariables false

def SmC (t : T) : Prop := ∀ (B : Nat → Prop) (w : World) (p : NV) (depth left : Int) (lf : Nat), Rep B w p t → (∀ k, B k → k ≠ lf) → Blk w lf 3 #[.int .i64 left] → -1 ≤ depth → depth ≤ 30 →
  Calls Tryd.prog 49 #[nodeV p t, .int .i64 depth, .pointer (some ⟨lf, 0, none⟩)] w (RgtP lf (t.sm depth left) w)
theorem T.sm_node {k : Int} {o : Bool} {ns : List ByteArray} {its : List T} {sz : Int} {ex : List IExt} {tg : ByteArray} (h1 : ns.length ≤ 140737488355328) (h2 : ex.length ≤ 140737488355328) (depth left : Int) :
    T.sm depth left (.node k o ns its sz ex tg) = if wrap64 (xsub (wrap64 (left - (1 + (ns.length : Int) + ex.length))) ex - tg.size) < 0 ∨ depth < 0 then (false, wrap64 (xsub (wrap64 (left - (1 + (ns.length : Int) + ex.length))) ex - tg.size))
      else T.smL (depth - 1) (wrap64 (xsub (wrap64 (left - (1 + (ns.length : Int) + ex.length))) ex - tg.size)) its := by
  have e1 : wrap64 (1 + (ns.length : Int) + ex.length) = 1 + ns.length + ex.length := by unfold wrap64; omega
  simp only [T.sm, own49, T.names, T.exts, T.target, e1]
theorem keep_of {S : Nat → Prop} {a b c : World} (h : Keep S a b) (k : Below b.heap.size b c) : Keep S a c := h.trans (Keep.of_below k)
set_option maxRecDepth 100000 in
set_option maxHeartbeats 8000000 in
theorem small_calls (t : T) : Sz t → SmC t := by
  induction t using T.ind with
  | h t ih =>
    intro hz B w p depth left lf h hlf hL hd0 hd1
    obtain ⟨_, hfa, hfb, hfc, hs, hx, hg, hr⟩ := hz
    have HIH : Av (∀ u ∈ t.items, SmC u) := ⟨fun u hu => ih u hu (hr u hu)⟩
    have HLF := Av.mk hlf
    have H := Av.mk h
    obtain ⟨An, cn, Ai, ci, Ae, ce, rfl⟩ := h.parts
    obtain ⟨R, hR⟩ : ∃ R, t.sm depth left = R := ⟨_, rfl⟩
    rw [hR]
    have HXS := Av.mk hx
    obtain ⟨k, o, ns, its, sz, ex, tg⟩ := t
    simp only [T.names, T.items, T.exts, T.kind, T.target, T.size, T.opq] at HIH HXS hfa hfb hfc hg
    rw [T.sm_node hfa hfc] at hR
    have HR := Av.mk hR
    clear ih hlf hx hs hr h hR
    show Calls Tryd.prog 49 #[.agg #[.int .i64 k, .bool o, .slice An ns.length cn, .slice Ai its.length ci, .int .i64 sz, .slice Ae ex.length ce, .string tg], .int .i64 depth, .pointer (some ⟨lf, 0, none⟩)] w _
    go_enter Tryd.func49, Tryd.ntmps49
    go_upto_region 1 with (fail)
    have L1 : Av (Blk (w.alloc (.cells #[.int .i64 k, .bool o, .slice An ns.length cn, .slice Ai its.length ci, .int .i64 sz, .slice Ae ex.length ce, .string tg] 33)) lf 3 #[.int .i64 left]) := ⟨hL.alloc _⟩
    have X1 := Av.mk (Blk.new w 33 #[.int .i64 k, .bool o, .slice An ns.length cn, .slice Ai its.length ci, .int .i64 sz, .slice Ae ex.length ce, .string tg])
    have K1 := Av.mk ((Keep.refl (fun k => k = lf) w).alloc (.cells #[.int .i64 k, .bool o, .slice An ns.length cn, .slice Ai its.length ci, .int .i64 sz, .slice Ae ex.length ce, .string tg] 33))
    have R1 := Av.mk (H.out.keep K1.out (fun k hk e => HLF.out k hk e))
    clear H hL
    generalize w.alloc (.cells #[.int .i64 k, .bool o, .slice An ns.length cn, .slice Ai its.length ci, .int .i64 sz, .slice Ae ex.length ce, .string tg] 33) = w1 at *
    generalize w.heap.size = g at *
    have GL := Av.mk (X1.out.ne_ L1.out (by decide))
    have l1 := L1.out.cell 0
    have lf1 := L1.out.frozen 0
    have ll1 := L1.out.lt
    have c2 := X1.out.cell 2; have c5 := X1.out.cell 5
    have lx := X1.out.lt
    simp at l1 c2 c5
    refine wp_tail 13 (by kernel_rfl) (by kernel_rfl) ?_
    simp only [List.take_succ_cons, List.take_zero, List.drop_succ_cons, List.drop_zero]
    repeat (refine wpStill_step (fun K hK => ?_); go_simp; refine hK _ ?_; clear hK K)
    refine wpStill_nil ?_
    go_wp2_with fail
    generalize hl0 : wrap64 (left - (1 + (ns.length : Int) + ex.length)) = l0 at *
    have L2 : Av (Blk (w1.setCell ⟨lf, 0, none⟩ (.int .i64 l0)).drew lf 3 #[.int .i64 l0]) := ⟨by have := L1.out.set_ 0 (.int .i64 l0); simpa using this.drew⟩
    have X2 : Av (Blk (w1.setCell ⟨lf, 0, none⟩ (.int .i64 l0)).drew g 33 #[.int .i64 k, .bool o, .slice An ns.length cn, .slice Ai its.length ci, .int .i64 sz, .slice Ae ex.length ce, .string tg]) := ⟨(X1.out.far (p := ⟨lf, 0, none⟩) GL.out _).drew⟩
    have k2 : Keep (fun k => k = lf) w1 (w1.setCell ⟨lf, 0, none⟩ (.int .i64 l0)).drew := ((Keep.refl (fun k => k = lf) w1).setCell (p := ⟨lf, 0, none⟩) (fun _ => rfl) _).drew
    have K2 := Av.mk (K1.out.trans k2)
    have R2 := Av.mk (R1.out.keep k2 (fun k hk e => HLF.out k hk e))
    clear k2 l1 lf1 ll1 c2 c5 lx L1 X1 K1 R1 hl0
    generalize (w1.setCell ⟨lf, 0, none⟩ (.int .i64 l0)).drew = w2 at *
    go_loopw [27] (fun i wr => ∃ (j : Nat) (lj : Int), j ≤ ex.length ∧ i = .int .i64 j ∧ Blk wr lf 3 #[.int .i64 lj] ∧ Keep (fun k => k = lf) w2 wr ∧ Av (xsub lj (ex.drop j) = xsub l0 ex)) (fun i _ => ex.length - (intOf i).toNat)
    case atStart => exact ⟨0, l0, Nat.zero_le _, rfl, L2.out, Keep.refl _ _, ⟨rfl⟩⟩
    case round =>
      obtain ⟨j, lj, hj, rfl, hlj, hkj, HX⟩ := hrel
      have LJ := Av.mk hlj
      have KJ := Av.mk hkj
      clear hlj hkj
      by_cases hlt : j < ex.length
      · obtain ⟨⟨xo, xd⟩, hx⟩ : ∃ x, ex[j]? = some x := ⟨_, List.getElem?_eq_getElem hlt⟩
        obtain ⟨b, off, rfl, _, hbl, hc, c0, c1⟩ := (R2.out.keep KJ.out (fun k hk e => HLF.out k hk e)).exts.elem (fun _ => rfl) (by omega) hx
        replace c1 := c1 1 (by omega)
        simp [iC] at c0 c1
        have hw := HX.out
        rw [drop_at hx] at hw
        simp only [xsub] at hw
        have hxs := HXS.out _ (List.mem_of_getElem? hx)
        simp only at hxs
        have HX2 := Av.mk hw
        clear hx hw HX
        have ll := LJ.out.lt
        go_upto_region 5 with (fail)
        have L3 := Av.mk (LJ.out.alloc (.cells #[.int .i64 xo, .string xd] 107))
        have Y3 := Av.mk (Blk.new wr 107 #[.int .i64 xo, .string xd])
        have K3 := Av.mk (KJ.out.alloc (.cells #[.int .i64 xo, .string xd] 107))
        have hne : lf ≠ wr.heap.size := by omega
        clear c0 c1 ll LJ KJ
        generalize wr.alloc (.cells #[.int .i64 xo, .string xd] 107) = w3 at *
        generalize wr.heap.size = gy at *
        have l1 := L3.out.cell 0
        have lf1 := L3.out.frozen 0
        have ll1 := L3.out.lt
        have c1 := Y3.out.cell 1
        have lx := Y3.out.lt
        simp at l1 c1
        refine wp_tail 8 (by kernel_rfl) (by kernel_rfl) ?_
        simp only [List.take_succ_cons, List.take_zero, List.drop_succ_cons, List.drop_zero]
        repeat (refine wpStill_step (fun K hK => ?_); go_simp; refine hK _ ?_; clear hK K)
        refine wpStill_nil ?_
        go_wp2_with fail
        have L4 : Av (Blk (w3.setCell ⟨lf, 0, none⟩ (.int .i64 (wrap64 (lj - xd.size)))).drew lf 3 #[.int .i64 (wrap64 (lj - xd.size))]) := ⟨by have := L3.out.set_ 0 (.int .i64 (wrap64 (lj - xd.size))); simpa using this.drew⟩
        have K4 := Av.mk ((K3.out.setCell (p := ⟨lf, 0, none⟩) (fun _ => rfl) (.int .i64 (wrap64 (lj - xd.size)))).drew)
        go_roundw
        case rel => exact ⟨j + 1, _, by omega, by go_num, L4.out, K4.out, HX2⟩
        case measure => simp [intOf]; omega
      · obtain rfl : j = ex.length := by omega
        have hw := HX.out
        rw [List.drop_length] at hw
        simp only [xsub] at hw
        have HR1 := HR.out
        rw [← hw] at HR1
        replace HR1 := Av.mk HR1
        clear HR
        clear hw HX
        have R3 := Av.mk (R2.out.keep KJ.out (fun k hk e => HLF.out k hk e))
        have X3 := Av.mk (X2.out.keep KJ.out (fun e => GL.out e))
        have K3 := Av.mk (K2.out.trans KJ.out)
        clear X2 R2 K2 KJ L2
        have l1 := LJ.out.cell 0
        have lf1 := LJ.out.frozen 0
        have ll1 := LJ.out.lt
        have c6 := X3.out.cell 6
        have lx := X3.out.lt
        simp at l1 c6
        go_upto_region 7 with (fail)
        refine wp_tail 8 (by kernel_rfl) (by kernel_rfl) ?_
        simp only [List.take_succ_cons, List.take_zero, List.drop_succ_cons, List.drop_zero]
        repeat (refine wpStill_step (fun K hK => ?_); go_simp; refine hK _ ?_; clear hK K)
        refine wpStill_nil ?_
        go_upto_region 8 with (fail)
        generalize hl2 : wrap64 (lj - (tg.size : Int)) = l2 at *
        have L4 : Av (Blk (wr.setCell ⟨lf, 0, none⟩ (.int .i64 l2)).drew lf 3 #[.int .i64 l2]) := ⟨by have := LJ.out.set_ 0 (.int .i64 l2); simpa using this.drew⟩
        have X4 : Av (Blk (wr.setCell ⟨lf, 0, none⟩ (.int .i64 l2)).drew g 33 #[.int .i64 k, .bool o, .slice An ns.length cn, .slice Ai its.length ci, .int .i64 sz, .slice Ae ex.length ce, .string tg]) := ⟨(X3.out.far (p := ⟨lf, 0, none⟩) GL.out _).drew⟩
        have k4 : Keep (fun k => k = lf) wr (wr.setCell ⟨lf, 0, none⟩ (.int .i64 l2)).drew := ((Keep.refl (fun k => k = lf) wr).setCell (p := ⟨lf, 0, none⟩) (fun _ => rfl) _).drew
        have K4 := Av.mk (K3.out.trans k4)
        have R4 := Av.mk (R3.out.keep k4 (fun k hk e => HLF.out k hk e)).items
        clear k4 l1 lf1 ll1 c6 lx LJ X3 K3 R3 hl2
        generalize (wr.setCell ⟨lf, 0, none⟩ (.int .i64 l2)).drew = w4 at *
        have l1 := L4.out.cell 0
        have ll1 := L4.out.lt
        have c3 := X4.out.cell 3
        have lx := X4.out.lt
        simp at l1 c3
        by_cases h1 : l2 < 0
        · have HRR : Av (R = (false, l2)) := ⟨by rw [← HR1.out, if_pos (.inl h1)]⟩
          go_wp2_with fail
          go_ret
          rw [HRR.out]
          exact ⟨rfl, L4.out, K4.out⟩
        by_cases h2 : depth < 0
        · have HRR : Av (R = (false, l2)) := ⟨by rw [← HR1.out, if_pos (.inr h2)]⟩
          go_wp2_with fail
          go_ret
          rw [HRR.out]
          exact ⟨rfl, L4.out, K4.out⟩
        have HRR : Av (T.smL (depth - 1) l2 its = R) := ⟨by rw [← HR1.out, if_neg (by omega)]⟩
        clear HR1
        go_wp2_with fail
        clear l1 ll1 c3 lx
        go_loopw [59] (fun i wr => ∃ (j : Nat) (lj : Int), j ≤ its.length ∧ i = .int .i64 j ∧ Blk wr lf 3 #[.int .i64 lj] ∧ Keep (fun k => k = lf) w4 wr ∧ Av (T.smL (depth - 1) lj (its.drop j) = R)) (fun i _ => its.length - (intOf i).toNat)
        case atStart => exact ⟨0, l2, Nat.zero_le _, rfl, L4.out, Keep.refl _ _, ⟨HRR.out⟩⟩
        case round =>
          obtain ⟨j, lj, hj, rfl, hlj, hkj, HX⟩ := hrel
          have LJ := Av.mk hlj
          have KJ := Av.mk hkj
          clear hlj hkj
          by_cases hlt : j < its.length
          · obtain ⟨u, hu⟩ : ∃ u, its[j]? = some u := ⟨_, List.getElem?_eq_getElem hlt⟩
            obtain ⟨b, off, q, rfl, hBb, hbl, hc, c0, c1, c2, c3, c4, c5, c6, hq⟩ := (R4.out.keep KJ.out (fun k hk e => HLF.out k hk e)).elem hu
            obtain ⟨Bn, dn, Bi, di, Be, de, rfl⟩ := hq.parts
            have HIu := Av.mk (HIH.out u (List.mem_of_getElem? hu))
            have HQ := Av.mk hq
            have hx := HX.out
            rw [drop_at hu] at hx
            simp only [T.smL] at hx
            have HX2 := Av.mk hx
            clear hx hq hu HX
            obtain ⟨uk, uo, uns, uits, usz, uex, utg⟩ := u
            simp only [T.kind, T.opq, T.names, T.items, T.size, T.exts, T.target] at c0 c1 c2 c3 c4 c5 c6
            have ll := LJ.out.lt
            go_upto_region 13 with (fail)
            have hba := below_alloc (Below.refl _ wr) (.cells #[.int .i64 uk, .bool uo, .slice Bn uns.length dn, .slice Bi uits.length di, .int .i64 usz, .slice Be uex.length de, .string utg] 33)
            have K5 := Av.mk (KJ.out.alloc (.cells #[.int .i64 uk, .bool uo, .slice Bn uns.length dn, .slice Bi uits.length di, .int .i64 usz, .slice Be uex.length de, .string utg] 33))
            have L5 := Av.mk (LJ.out.alloc (.cells #[.int .i64 uk, .bool uo, .slice Bn uns.length dn, .slice Bi uits.length di, .int .i64 usz, .slice Be uex.length de, .string utg] 33))
            have Q5 := Av.mk (HQ.out.grow hba)
            have Y5 := Av.mk (Blk.new wr 33 #[.int .i64 uk, .bool uo, .slice Bn uns.length dn, .slice Bi uits.length di, .int .i64 usz, .slice Be uex.length de, .string utg])
            clear hba KJ LJ c0 c1 c2 c3 c4 c5 c6 ll
            generalize wr.alloc (.cells #[.int .i64 uk, .bool uo, .slice Bn uns.length dn, .slice Bi uits.length di, .int .i64 usz, .slice Be uex.length de, .string utg] 33) = w5 at *
            generalize wr.heap.size = gy at *
            have c0 := Y5.out.cell 0; have c1 := Y5.out.cell 1; have c2 := Y5.out.cell 2; have c3 := Y5.out.cell 3; have c4 := Y5.out.cell 4; have c5 := Y5.out.cell 5; have c6 := Y5.out.cell 6
            have lx := Y5.out.lt
            simp at c0 c1 c2 c3 c4 c5 c6
            have HCu := Av.mk (HIu.out B w5 _ (depth - 1) lj lf Q5.out (fun k hk => HLF.out k hk) L5.out (by omega) (by omega))
            obtain ⟨⟨r1, r2⟩, hr⟩ : ∃ r, T.sm (depth - 1) lj (.node uk uo uns uits usz uex utg) = r := ⟨_, rfl⟩
            rw [hr] at HCu HX2
            simp only at HX2
            clear hr
            cases r1
            case false =>
              have HRF : Av (R = (false, r2)) := ⟨by rw [← HX2.out, if_neg (by simp)]⟩
              go_wp2_with fail
              refine HCu.out.mono ?_
              rintro e w6 ⟨rfl, hl6, hk6⟩
              have L6 := Av.mk hl6
              have K6 := Av.mk (K4.out.trans (K5.out.trans hk6))
              clear hl6 hk6
              go_wp2_with fail
              go_ret
              rw [HRF.out]
              exact ⟨rfl, L6.out, K6.out⟩
            case true =>
              have HRF : Av (T.smL (depth - 1) r2 (its.drop (j + 1)) = R) := ⟨by rw [← HX2.out, if_pos rfl]⟩
              go_wp2_with fail
              refine HCu.out.mono ?_
              rintro e w6 ⟨rfl, hl6, hk6⟩
              have L6 := Av.mk hl6
              have K6 := Av.mk (K5.out.trans hk6)
              clear hl6 hk6
              go_wp2_with fail
              go_roundw
              case rel => exact ⟨j + 1, r2, by omega, by go_num, L6.out, K6.out, ⟨HRF.out⟩⟩
              case measure => simp [intOf]; omega
          · obtain rfl : j = its.length := by omega
            have hx := HX.out
            rw [List.drop_length] at hx
            simp only [T.smL] at hx
            have HRF := Av.mk hx.symm
            clear hx
            go_wp2_with fail
            go_ret
            rw [HRF.out]
            exact ⟨rfl, LJ.out, K4.out.trans KJ.out⟩
set_option maxHeartbeats 1000000 in
theorem Small_calls {B : Nat → Prop} {w : World} {p : NV} {t : T} (h : Rep B w p t) (hB : ∀ k, B k → k < w.heap.size) (hz : Sz t) : Calls Tryd.prog 17 #[nodeV p t] w (RetB (.int .i64 (if t.small = true then 1 else 0)) w) := by
  have HC := Av.mk (small_calls t hz)
  have H := Av.mk h
  have HBB := Av.mk hB
  obtain ⟨An, cn, Ai, ci, Ae, ce, rfl⟩ := h.parts
  obtain ⟨vi, hvi⟩ : ∃ vi : Int, (if t.small = true then 1 else 0) = vi := ⟨_, rfl⟩
  rw [hvi]
  have HS : Av ((if (T.sm 30 400 t).1 = true then 1 else 0) = vi) := ⟨hvi⟩
  clear hvi
  obtain ⟨k, o, ns, its, sz, ex, tg⟩ := t
  show Calls Tryd.prog 17 #[.agg #[.int .i64 k, .bool o, .slice An ns.length cn, .slice Ai its.length ci, .int .i64 sz, .slice Ae ex.length ce, .string tg]] w _
  clear h hB hz
  obtain ⟨r, hr⟩ : ∃ r, T.sm 30 400 (.node k o ns its sz ex tg) = r := ⟨_, rfl⟩
  rw [hr] at HS
  have HRR := Av.mk hr
  clear hr
  go_enter Tryd.func17, Tryd.ntmps17
  go_wp2_with fail
  have hb1 := below_alloc (Below.refl _ w) (.cells #[.int .i64 k, .bool o, .slice An ns.length cn, .slice Ai its.length ci, .int .i64 sz, .slice Ae ex.length ce, .string tg] 33)
  have hb2 := below_alloc hb1 (.cells #[.int .i64 400] 3)
  have L2 := Av.mk (Blk.new (w.alloc (.cells #[.int .i64 k, .bool o, .slice An ns.length cn, .slice Ai its.length ci, .int .i64 sz, .slice Ae ex.length ce, .string tg] 33)) 3 #[.int .i64 400])
  have hsz : (w.alloc (.cells #[.int .i64 k, .bool o, .slice An ns.length cn, .slice Ai its.length ci, .int .i64 sz, .slice Ae ex.length ce, .string tg] 33)).heap.size = w.heap.size + 1 := by simp
  rw [hsz] at L2
  have R2 := Av.mk (H.out.grow hb2)
  have HCC := Av.mk (HC.out B _ _ 30 400 (w.heap.size + 1) R2.out (fun k hk e => by have := HBB.out k hk; omega) L2.out (by omega) (by omega))
  rw [HRR.out] at HCC
  refine HCC.out.mono ?_
  rintro e w3 ⟨rfl, _, hk3⟩
  have HB3 : Av (Below w.heap.size w w3) := ⟨hb2.trans (hk3.below (by simp; omega) (by rintro k rfl; omega))⟩
  clear hk3 hb1 hb2
  obtain ⟨r1, r2⟩ := r
  cases r1
  case false =>
    go_wp2_with fail
    go_ret
    exact ⟨by rw [← HS.out]; rfl, HB3.out⟩
  case true =>
    go_wp2_with fail
    go_ret
    exact ⟨by rw [← HS.out]; rfl, HB3.out⟩
end Go.Proofs.YtkmojgdjapfbbaaDoor
