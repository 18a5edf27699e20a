/- ShardDoes: the walk. -/
import Derived.Test.YtiopmehaghcpfaaSdP
import Derived.Deep.DeepCutAuto
namespace Go.Proofs.Ytiopmehaghcpfaa
open Go.RowKit Go.Maps
attribute [local go_sem ↓] run_max_int run_min_int

set_option maxRecDepth 100000 in
set_option maxHeartbeats 4000000 in
theorem sd_walk (a b : Int) (A : Option Addr) (N c : Nat) (F : Nat → ByteArray × Int) (w : World) (hA : Acs w A N F) :
    Calls Try.prog 8 #[.agg #[.int .i64 a, .int .i64 b], .slice A N c] w (RetB (.bool true) w) := by
  obtain ⟨n, hn, hn1, hn2⟩ : ∃ n : Nat, mn (mx a 1) 256 = (n : Int) ∧ 1 ≤ n ∧ n ≤ 256 := by
    refine ⟨(mn (mx a 1) 256).toNat, ?_, ?_, ?_⟩ <;> (unfold mn mx; split <;> split <;> omega)
  obtain ⟨r, hr, hr1⟩ : ∃ r : Int, r = mx b 1 ∧ 1 ≤ r := ⟨_, rfl, by unfold mx; split <;> omega⟩
  obtain ⟨i0, hi0⟩ := info33
  have I := Av.mk hi0
  have HN := Av.mk hn
  have HR := Av.mk hr
  have HA := Av.mk hA
  clear hn hr hA hi0
  go_enter Try.func8, Try.ntmps8
  go_wp2_with fail
  have X0 := Av.mk (Blk.new w 88 #[.int .i64 a, .int .i64 b])
  have HB0 := Av.mk (below_alloc (Below.refl _ w) (.cells #[.int .i64 a, .int .i64 b] 88))
  generalize w.alloc (.cells #[.int .i64 a, .int .i64 b] 88) = w1 at *
  refine (speaks14 w1).mono ?_
  rintro e w2 ⟨rfl, hb2⟩
  have X2 := Av.mk (X0.out.keep (Keep.of_below (S := fun _ => False) hb2) (by simp))
  have HB2 := Av.mk (below_then HB0.out HB0.out.size hb2)
  have d0 := X2.out.cell 0
  have d1 := X2.out.cell 1
  have hlx := X2.out.lt
  simp at d0 d1
  clear hb2 X0 HB0
  by_cases hbig : 200 < N
  · go_wp2
    go_ret
    exact ⟨rfl, HB2.out⟩
  go_wp2_with fail
  rw [HN.out]
  go_wp2_with fail
  refine (snew_calls a b n HN.out hn1 hn2 w.heap.size 0 (fun _ => r) (fun _ => 0) (fun _ => .slice none 0 0) (fun _ => []) w2 (Fam.nil w2 _ _ _ _ _) HB2.out.size).mono ?_
  rintro e w3 ⟨vs, G0, V0, rfl, hb3, hS3, hF3, _⟩
  have HS3 := Av.mk hS3
  have HF3 := Av.mk (show Fam w3 w.heap.size (n + 0) (fun _ => r) G0 V0 (fun _ => []) from hF3.congr (m := 0 + n) (fun i hi => ⟨by unfold joinF; rw [if_neg (by omega), HR.out], rfl, rfl, by unfold joinF; rw [if_neg (by omega)]⟩) |> fun h => by rw [Nat.zero_add] at h; exact h)
  have X3 := Av.mk (X2.out.keep (Keep.of_below (S := fun _ => False) hb3) (by simp))
  have HB3 := Av.mk (below_then HB2.out HB2.out.size hb3)
  obtain ⟨B, hB⟩ : ∃ B, B = w3.heap.size := ⟨_, rfl⟩
  have HVS := Av.mk (show ∀ i, vs.ownBlock = some i → i < B from fun i hi => by rw [hB]; exact row_lt hS3.row i hi.symm)
  have hwB : w.heap.size ≤ B := by rw [hB]; exact HB3.out.size
  clear hb3 hS3 hF3 X2 HB2 d0 d1 hlx
  generalize w2.heap.size = g at *
  go_wp2_with fail
  go_loopw [7, 37] (fun vl i wr => ∃ (k : Nat) (G : Nat → Nat) (V : Nat → Value), k ≤ n ∧ i = .int .i64 k ∧ Fam wr w.heap.size (n + k) (fun _ => r) G V (fun _ => []) ∧ Shb wr g g n vs (fun j => G (0 + j)) ∧
    B ≤ wr.heap.size ∧ wr.ownsRow B 33 1 vl k ((List.range k).map fun j => .pointer (some ⟨G (n + j), 0, none⟩)) ∧ Blk wr w.heap.size 88 #[.int .i64 a, .int .i64 b] ∧ Below w.heap.size w wr) (fun _ i _ => n - (intOf i).toNat)
  case atStart => exact ⟨0, G0, V0, Nat.zero_le _, rfl, HF3.out, HS3.out, Nat.le_of_eq hB, ⟨rfl, .inl ⟨rfl, rfl⟩⟩, X3.out, HB3.out⟩
  case round =>
    obtain ⟨k, G, V, hk, rfl, hf, hs, hBw, hrw, hx, hb⟩ := hrel
    have HF := Av.mk hf
    have HS := Av.mk hs
    have HRW := Av.mk hrw
    have HX := Av.mk hx
    have HB := Av.mk hb
    obtain ⟨AL, cl, rfl⟩ := own_slice hrw
    clear hf hs hrw hx hb HF3 HS3 X3 HB3
    have d0 := HX.out.cell 0
    have d1 := HX.out.cell 1
    have hlx := HX.out.lt
    simp at d0 d1
    by_cases hlt : k < n
    · go_wp2_with fail
      refine (new_S b wr).mono ?_
      rintro e w5 ⟨rfl, hl5, hb5⟩
      rw [← HR.out] at hl5
      have HF5 := Av.mk (HF.out.new rfl HB.out.size hl5 hb5)
      have HS5 := Av.mk (HS.out.below hb5)
      have HRW5 := Av.mk (row_below HRW.out hb5)
      have HX5 := Av.mk (HX.out.keep (Keep.of_below (S := fun _ => False) hb5) (by simp))
      have HB5 := Av.mk (below_then HB.out HB.out.size hb5)
      have hz5 := HB5.out.size
      have hB5 : B ≤ w5.heap.size := Nat.le_trans hBw hb5.size
      clear hl5 hb5 d0 d1
      go_wp2_with (first | (at_builtin; refine wpList_app rfl _ _ 90 rfl B 33 i0 (.pointer none) 1 8 Try.underlying90 I.out.1 I.out.2.1 I.out.2.2.1 I.out.2.2.2 rfl (by decide) (.slice AL k cl) k _ rfl (row_keep HRW5.out ((Keep.refl (fun _ => False) w5).alloc _) (by simp)) ⟨w5.heap.size, 0, none⟩ 1 1 [.pointer (some ⟨wr.heap.size, 0, none⟩)] rfl rfl (new_cells w5 [.pointer (some ⟨wr.heap.size, 0, none⟩)] 33) (by simp [Value.oneCell']) (by unfold maxLen; omega) (by omega) (by simp; omega) ?_; intro A2 c2 w6 hown2 hgrow2 hloc2; have HO := Av.mk hown2; have HG := Av.mk hgrow2; clear hown2 hgrow2 hloc2))
      have HQ := Av.mk (sd_grow HF5.out HS5.out HX5.out HRW5.out HVS.out HG.out)
      have HF6 := Av.mk (HQ.out.1.congr (R' := fun _ => r) (G' := up G (n + k) wr.heap.size) (V' := up V (n + k) (.slice none 0 0)) (Ls' := fun _ => []) (fun i hi => ⟨by unfold up; split <;> rfl, rfl, rfl, by unfold up; split <;> rfl⟩))
      have HS6 := Av.mk (HQ.out.2.1.congr (G' := fun j => up G (n + k) wr.heap.size (0 + j)) (fun j hj => up_other _ _ _ (by omega)))
      have HB6 := Av.mk (below_keep HB5.out HB5.out.size HQ.out.2.2.2 (fun i e => Nat.le_trans hwB (row_base HRW5.out i e)))
      have HX6 := Av.mk HQ.out.2.2.1
      have hB6 : B ≤ w6.heap.size := Nat.le_trans hB5 HQ.out.2.2.2.size
      have HO6 := Av.mk (show w6.ownsRow B 33 1 (.slice A2 (k + 1) c2) (k + 1) ((List.range (k + 1)).map fun j => .pointer (some ⟨up G (n + k) wr.heap.size (n + j), 0, none⟩)) from by
        have := HO.out
        rw [← row_up (fun j => G (n + j)) k wr.heap.size] at this
        have e2 : (fun j => Value.pointer (some ⟨up G (n + k) wr.heap.size (n + j), 0, none⟩)) = fun j => Value.pointer (some ⟨up (fun j => G (n + j)) k wr.heap.size j, 0, none⟩) := by
          funext j
          unfold up
          by_cases h : j = k
          · rw [if_pos h, if_pos (by omega)]
          · rw [if_neg h, if_neg (by omega)]
        rw [e2]
        exact this)
      go_roundw
      case rel => exact ⟨k + 1, _, _, by omega, by go_num, HF6.out, HS6.out, hB6, HO6.out, HX6.out, HB6.out⟩
      case measure => simp [intOf]; omega
    · obtain rfl : k = n := by omega
      obtain ⟨rl, cl2, el, hrl0, hcl⟩ := row_shape1 HRW.out (by omega)
      cases el
      have HST := Av.mk (show Sst B w wr k r g w.heap.size a b vs (.slice (some ⟨rl, 0, none⟩) k cl) G V (fun _ => []) from ⟨HF.out, HS.out, HRW.out, HX.out, HB.out⟩)
      clear HF HS HRW HX HB d0 d1 hlx
      go_wp2_with fail
      go_loopw [48] (fun i wx => ∃ (q : Nat) (V : Nat → Value) (Ls : Nat → PL), q ≤ N ∧ i = .int .i64 q ∧ Sst B w wx k r g w.heap.size a b vs (.slice (some ⟨rl, 0, none⟩) k cl) G V Ls ∧ Srel k r Ls ∧ Av (∀ j, j < k → (Ls j).length ≤ q)) (fun i _ => N - (intOf i).toNat)
      case atStart => exact ⟨0, V, fun _ => [], Nat.zero_le _, rfl, HST.out, ⟨fun _ _ => rfl, fun _ _ => by simp, fun _ _ => by simp; omega⟩, ⟨fun _ _ => by simp⟩⟩
      case round =>
        obtain ⟨wx, rfl⟩ : ∃ wx : World, wx = wr := ⟨_, rfl⟩
        obtain ⟨q, V, Ls, hq, rfl, hst, hrl, HLE⟩ := hrel
        have HS := Av.mk hst
        have HRL := Av.mk hrl
        have d0 := hst.box.cell 0
        have d1 := hst.box.cell 1
        have hlx := hst.box.lt
        simp at d0 d1
        clear hst hrl HST
        by_cases hlt : q < N
        · obtain ⟨b2, off, rfl, hbl, hF⟩ := HA.out (by omega)
          obtain ⟨⟨f0, f1⟩, e0, e1⟩ := hF q hlt
          obtain ⟨⟨ak, av⟩, ha⟩ : ∃ x, x = F q := ⟨_, rfl⟩
          rw [← ha] at f0 f1 e0 e1
          clear hF ha
          simp only at f0 f1 e0 e1
          rw [← HS.out.below.cell (p := ⟨b2, _, none⟩) hbl] at e0 e1
          by_cases hsz : 100 < ak.size
          · have HBE := Av.mk (below_alloc HS.out.below (.cells #[.string ak, .int .i64 av] 91))
            go_wp2
            go_ret
            exact ⟨rfl, HBE.out⟩
          · have hj := shd_lt (show 0 < k by omega) ak
            have hle := HLE.out _ hj
            by_cases hz : av = 0
            · subst hz
              go_wp2_with fail
              have X0 := Av.mk (Blk.new wx 91 #[.string ak, .int .i64 0])
              have HS1 := Av.mk (HS.out.keep (below_alloc (Below.refl _ wx) (.cells #[.string ak, .int .i64 0] 91)))
              clear HS e0 e1 d0 d1 hlx
              generalize wx.alloc (.cells #[.string ak, .int .i64 0] 91) = w4 at *
              generalize wx.heap.size = gx at *
              have d0 := X0.out.cell 0
              have d1 := X0.out.cell 1
              have hlx := X0.out.lt
              simp at d0 d1
              refine (Fnv.ref_calls ak w4 (by omega)).mono ?_
              rintro e _ ⟨rfl, rfl⟩
              have hs := Fnv.sum_lt (Fnv.bsOf ak)
              have e2 := shd_wrap k ak (by omega) hn2
              have e3 : IntKind.u64.wrap (k : Int) = (k : Int) := by rw [IntKind.wrap_u64]; omega
              obtain ⟨l2, x2, ok2, hP, nd2, len2, mem2, mem3⟩ := getIs_any r (Ls (shd k ak)) ak (HRL.out.nd _ hj) (by omega)
              have ND2 := Av.mk nd2
              have LE2 := Av.mk len2
              clear nd2 len2 mem2 mem3
              generalize Fnv.sum (Fnv.bsOf ak) = sm at *
              have HP := Av.mk hP
              have HP2 := Av.mk (show GetIs r (up Ls (shd k ak) l2 (k + shd k ak)) ak l2 x2 ok2 from by rw [up_other _ _ _ (by omega), HRL.out.eq _ hj]; exact hP)
              clear hP
              have HG := Av.mk (HS1.out.sget (by omega) hn2 (by omega) HP.out)
              go_wp2_with fail
              rw [e2]
              refine HG.out.mono ?_
              rintro e w5 ⟨rfl, hs5, k5⟩
              have HS5 := Av.mk hs5
              have X5 := Av.mk (HS1.out.act (Nat.lt_of_lt_of_le hj (Nat.le_add_left k k)) k5 X0.out)
              clear hs5 k5 HG HS1 X0 d0 d1 hlx
              have HG := Av.mk (oget_all (B := B) (w0 := w) (g := g) (gb := w.heap.size) (a := a) (b := b) (vs := vs) (vl := .slice (some ⟨rl, 0, none⟩) k cl) (G := G) (V := V) hj HP2.out)
              have cj := HS5.out.cell _ hj
              have d0 := X5.out.cell 0
              have d1 := X5.out.cell 1
              have hlx := X5.out.lt
              simp at d0 d1
              go_wp2_with fail
              go_region_with (first | (go_at_call 23; refine (HG.out w5.drew HS5.out.drew).mono ?_; rintro e w6 ⟨rfl, hs6, k6⟩))
              all_goals
                have HS6 := Av.mk hs6
                have X6 := Av.mk (HS5.out.actd (Nat.add_lt_add_left hj k) k6 X5.out)
                clear hs6 k6 HS5 X5 HG
                have HRL6 := Av.mk (HRL.out.step (shd k ak) hj l2 ND2.out (by rw [LE2.out]; exact HRL.out.len _ hj))
                have HLE6 := Av.mk (len_step (s := shd k ak) (l2 := l2) HLE.out (by rw [LE2.out]; omega))
                generalize up (up Ls (shd k ak) l2) (k + shd k ak) l2 = L6 at *
                clear HRL HLE HP HP2 ND2 LE2 X6 cj d0 d1 hlx
                have d0 := HS6.out.box.cell 0
                have d1 := HS6.out.box.cell 1
                have hlx := HS6.out.box.lt
                simp at d0 d1
                have HMB : Av (mx b 1 = r) := ⟨HR.out.symm⟩
                have HML : Av (((mst L6 k : Nat) : Int) ≤ r) := ⟨mst_le HRL6.out (by omega)⟩
                go_wp2_with fail
                go_loop [19, 122] (fun m i => ∃ t : Nat, t ≤ k ∧ i = .int .i64 t ∧ m = .int .i64 (mst L6 t)) (fun _ i => k - (intOf i).toNat)
                case atStart => exact ⟨0, Nat.zero_le _, rfl, rfl⟩
                case round =>
                  obtain ⟨t, ht, rfl, rfl⟩ := hrel
                  by_cases hlt3 : t < k
                  · have ck := HS6.out.cell t hlt3
                    have HC1 := Av.mk (HS6.out.slen t hlt3)
                    have HC2 := Av.mk (HS6.out.olen HRL6.out t hlt3)
                    go_wp2_with fail
                    refine HC1.out.mono ?_
                    rintro e _ ⟨rfl, rfl⟩
                    go_wp2_with fail
                    refine HC2.out.mono ?_
                    rintro e _ ⟨rfl, rfl⟩
                    go_wp2_with fail
                    refine HC2.out.mono ?_
                    rintro e _ ⟨rfl, rfl⟩
                    have hmx := mst_mx L6 t
                    go_wp2_with fail
                    go_round
                    case rel => exact ⟨t + 1, by omega, by go_num, rfl⟩
                    case measure => simp [intOf]; omega
                  · obtain rfl : t = k := by omega
                    have HC3 := Av.mk (HS6.out.most hn2)
                    go_wp2_with fail
                    refine HC3.out.mono ?_
                    rintro e _ ⟨rfl, rfl⟩
                    have hmb := HMB.out
                    have hml := HML.out
                    have hml2 : ¬ r < ((mst L6 t : Nat) : Int) := by omega
                    go_wp2_with fail
                    go_roundw
                    case rel => exact ⟨q + 1, _, L6, by omega, by go_num, HS6.out, HRL6.out, HLE6⟩
                    case measure => simp [intOf]; omega
            · go_wp2_with fail
              have X0 := Av.mk (Blk.new wx 91 #[.string ak, .int .i64 av])
              have HS1 := Av.mk (HS.out.keep (below_alloc (Below.refl _ wx) (.cells #[.string ak, .int .i64 av] 91)))
              clear HS e0 e1 d0 d1 hlx
              generalize wx.alloc (.cells #[.string ak, .int .i64 av] 91) = w4 at *
              generalize wx.heap.size = gx at *
              have d0 := X0.out.cell 0
              have d1 := X0.out.cell 1
              have hlx := X0.out.lt
              simp at d0 d1
              refine (Fnv.ref_calls ak w4 (by omega)).mono ?_
              rintro e _ ⟨rfl, rfl⟩
              have hs := Fnv.sum_lt (Fnv.bsOf ak)
              have e2 := shd_wrap k ak (by omega) hn2
              have e3 : IntKind.u64.wrap (k : Int) = (k : Int) := by rw [IntKind.wrap_u64]; omega
              obtain ⟨l2, gone, is, hP, nd2, len2, le2, mem2⟩ := putIs_any r (Ls (shd k ak)) ak av (HRL.out.nd _ hj) (by omega) (HRL.out.len _ hj) hr1
              have ND2 := Av.mk nd2
              have LE2 := Av.mk (And.intro len2 le2)
              clear nd2 len2 le2 mem2
              generalize Fnv.sum (Fnv.bsOf ak) = sm at *
              have HP := Av.mk hP
              have HP2 := Av.mk (show PutIs r (up Ls (shd k ak) l2 (k + shd k ak)) ak av l2 gone is from by rw [up_other _ _ _ (by omega), HRL.out.eq _ hj]; exact hP)
              clear hP
              have HG := Av.mk (HS1.out.sput (by omega) hn2 (by omega) HP.out)
              go_wp2_with fail
              rw [e2]
              refine HG.out.mono ?_
              rintro e w5 ⟨rfl, V5, hs5, k5⟩
              have HS5 := Av.mk hs5
              have X5 := Av.mk (HS1.out.act (Nat.lt_of_lt_of_le hj (Nat.le_add_left k k)) k5 X0.out)
              clear hs5 k5 HG HS1 X0 d0 d1 hlx
              have HG := Av.mk (oput_all (B := B) (w0 := w) (g := g) (gb := w.heap.size) (a := a) (b := b) (vs := vs) (vl := .slice (some ⟨rl, 0, none⟩) k cl) (G := G) hj HP2.out)
              have cj := HS5.out.cell _ hj
              have d0 := X5.out.cell 0
              have d1 := X5.out.cell 1
              have hlx := X5.out.lt
              simp at d0 d1
              go_wp2_with fail
              go_region_with (first | (go_at_call 21; refine (HG.out w5.drew V5 HS5.out.drew).mono ?_; rintro e w6 ⟨rfl, V6, hs6, k6⟩))
              all_goals
                have HS6 := Av.mk hs6
                have X6 := Av.mk (HS5.out.actd (Nat.add_lt_add_left hj k) k6 X5.out)
                clear hs6 k6 HS5 X5 HG
                have HRL6 := Av.mk (HRL.out.step (shd k ak) hj l2 ND2.out LE2.out.1)
                have HLE6 := Av.mk (len_step (s := shd k ak) (l2 := l2) HLE.out (Nat.le_trans LE2.out.2 (by omega)))
                generalize up (up Ls (shd k ak) l2) (k + shd k ak) l2 = L6 at *
                clear HRL HLE HP HP2 ND2 LE2 X6 cj d0 d1 hlx
                have d0 := HS6.out.box.cell 0
                have d1 := HS6.out.box.cell 1
                have hlx := HS6.out.box.lt
                simp at d0 d1
                have HMB : Av (mx b 1 = r) := ⟨HR.out.symm⟩
                have HML : Av (((mst L6 k : Nat) : Int) ≤ r) := ⟨mst_le HRL6.out (by omega)⟩
                go_wp2_with fail
                go_loop [19, 122] (fun m i => ∃ t : Nat, t ≤ k ∧ i = .int .i64 t ∧ m = .int .i64 (mst L6 t)) (fun _ i => k - (intOf i).toNat)
                case atStart => exact ⟨0, Nat.zero_le _, rfl, rfl⟩
                case round =>
                  obtain ⟨t, ht, rfl, rfl⟩ := hrel
                  by_cases hlt3 : t < k
                  · have ck := HS6.out.cell t hlt3
                    have HC1 := Av.mk (HS6.out.slen t hlt3)
                    have HC2 := Av.mk (HS6.out.olen HRL6.out t hlt3)
                    go_wp2_with fail
                    refine HC1.out.mono ?_
                    rintro e _ ⟨rfl, rfl⟩
                    go_wp2_with fail
                    refine HC2.out.mono ?_
                    rintro e _ ⟨rfl, rfl⟩
                    go_wp2_with fail
                    refine HC2.out.mono ?_
                    rintro e _ ⟨rfl, rfl⟩
                    have hmx := mst_mx L6 t
                    go_wp2_with fail
                    go_round
                    case rel => exact ⟨t + 1, by omega, by go_num, rfl⟩
                    case measure => simp [intOf]; omega
                  · obtain rfl : t = k := by omega
                    have HC3 := Av.mk (HS6.out.most hn2)
                    go_wp2_with fail
                    refine HC3.out.mono ?_
                    rintro e _ ⟨rfl, rfl⟩
                    have hmb := HMB.out
                    have hml := HML.out
                    have hml2 : ¬ r < ((mst L6 t : Nat) : Int) := by omega
                    go_wp2_with fail
                    go_roundw
                    case rel => exact ⟨q + 1, _, L6, by omega, by go_num, HS6.out, HRL6.out, HLE6⟩
                    case measure => simp [intOf]; omega
        · obtain rfl : q = N := by omega
          go_wp2_with fail
          refine (slen_out g g k vs _ (-1) wx HS.out.sh (by omega)).mono ?_
          rintro e _ ⟨rfl, rfl⟩
          go_wp2_with fail
          refine (slen_out g g k vs _ k wx HS.out.sh (by omega)).mono ?_
          rintro e _ ⟨rfl, rfl⟩
          have HBE := Av.mk HS.out.below
          go_wp2
          go_ret
          exact ⟨rfl, HBE.out⟩
end Go.Proofs.Ytiopmehaghcpfaa
