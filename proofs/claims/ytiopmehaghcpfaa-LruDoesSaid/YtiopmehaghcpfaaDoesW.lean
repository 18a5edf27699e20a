/- LruDoes: the walk. Printed by gen_does13.py. -/
import Derived.Test.YtiopmehaghcpfaaDoesP
namespace Go.Proofs.Ytiopmehaghcpfaa
open Go.RowKit Go.Maps
attribute [local go_sem ↓] run_max_int run_min_int

set_option maxRecDepth 100000 in
set_option maxHeartbeats 8000000 in
theorem does_walk (room : Int) (A : Option Addr) (n c : Nat) (F : Nat → ByteArray × Int) (w : World) (hA : Acs w A n F) (hn : n ≤ 9223372036854775807) :
    Calls Try.prog 5 #[.int .i64 room, .slice A n c] w (RetB (.bool true) w) := by
  obtain ⟨i0, hi0⟩ := info9
  have I := Av.mk hi0
  clear hi0
  have HA := Av.mk hA
  clear hA
  by_cases hbig : 200 < n
  · go_enter Try.func5, Try.ntmps5
    go_wp2_with fail
    refine (speaks13 w).mono ?_
    rintro e w1 ⟨rfl, hb1⟩
    have HB1 := Av.mk hb1
    clear hb1
    go_wp2
    go_ret
    exact ⟨rfl, HB1.out⟩
  obtain ⟨R, hR, hR1⟩ : ∃ R : Int, R = mx room 1 ∧ 1 ≤ R := ⟨_, rfl, by unfold mx; split <;> omega⟩
  have HR := Av.mk hR
  clear hR
  go_enter Try.func5, Try.ntmps5
  go_wp2_with fail
  refine (speaks13 w).mono ?_
  rintro e w1 ⟨rfl, hb1⟩
  have HB1 := Av.mk hb1
  clear hb1
  go_wp2_with fail
  refine (new_S room w1).mono ?_
  rintro e w2 ⟨rfl, hl2, hb2⟩
  rw [← HR.out] at hl2
  have HD := Av.mk (show Dst w w2 w1.heap.size R [] (.slice none 0 0) from ⟨⟨_, hl2⟩, ⟨rfl, .inl ⟨rfl, rfl⟩⟩, by simp, by simp; omega, below_then HB1.out HB1.out.size hb2, HB1.out.size⟩)
  clear hl2 hb2 HB1
  generalize w1.heap.size = g at *
  go_wp2_with fail
  go_loopw [6, 29] (fun pv i wr => ∃ (k : Nat) (l : List (ByteArray × Int)), k ≤ n ∧ l.length ≤ k ∧ i = .int .i64 k ∧ Dst w wr g R l pv) (fun _ i _ => n - (intOf i).toNat)
  case atStart => exact ⟨0, [], Nat.zero_le _, by simp, rfl, HD.out⟩
  case round =>
    obtain ⟨k, l, hk, hlk, rfl, hs⟩ := hrel
    have HS := Av.mk hs
    obtain ⟨A6, c6, rfl⟩ := own_slice hs.prs
    clear hs HD
    by_cases hlt : k < n
    · obtain ⟨b, off, rfl, hbl, hF⟩ := HA.out (by omega)
      obtain ⟨⟨f0, f1⟩, e0, e1⟩ := hF k hlt
      obtain ⟨⟨ak, av⟩, ha⟩ : ∃ a, a = F k := ⟨_, rfl⟩
      rw [← ha] at f0 f1 e0 e1
      clear hF ha
      simp only at f0 f1 e0 e1
      rw [← HS.out.below.cell (p := ⟨b, _, none⟩) hbl] at e0 e1
      by_cases hz : av = 0
      · subst hz
        by_cases hk2 : keyAt ak l < l.length
        · go_wp2_with fail
          have X0 := Av.mk (Blk.new wr 45 #[.string ak, .int .i64 0])
          have HS1 := Av.mk (HS.out.keep (below_alloc (Below.refl _ wr) (.cells #[.string ak, .int .i64 0] 45)))
          clear HS e0 e1
          generalize wr.alloc (.cells #[.string ak, .int .i64 0] 45) = w3 at *
          generalize wr.heap.size = gx at *
          have d0 := X0.out.cell 0
          have d1 := X0.out.cell 1
          have hlx := X0.out.lt
          simp at d0 d1

          refine (Find13 w.heap.size _ l ak w3 HS1.out.prs (by omega) _ rfl).mono ?_
          rintro e _ ⟨rfl, rfl⟩
          obtain ⟨v, hv⟩ := HS1.out.lru
          have HV := Av.mk hv
          clear hv

          obtain ⟨m, hml, hfn, hkm, hC⟩ := get_ref l ak HS1.out.nodup (by omega) hk2
          have HC := Av.mk (hC w3 g R v HV.out)
          rw [hfn]
          clear hfn hC
          obtain ⟨r, c3, e, hr, _, hc⟩ := Pairs.shape1 HS1.out.prs (by omega)
          cases e
          go_wp2_with fail
          refine HC.out.mono ?_
          rintro e w5 ⟨rfl, hl5, k5⟩
          have HL5 := Av.mk hl5
          have HG5 := Av.mk (HS1.out.got HV.out hl5 k5)
          have X5 := Av.mk (X0.out.keep k5 (row_ne HV.out.row X0.out (by decide)))
          clear hl5 k5
          have y0 : w5.cell? ⟨r, m * 2, none⟩ = some (.string l[m].1) := Pairs.cell HG5.out.1 m hml 0 (by omega)
          have y1 : w5.cell? ⟨r, m * 2 + 1, none⟩ = some (.int .i64 l[m].2) := Pairs.cell HG5.out.1 m hml 1 (by omega)
          go_wp2_with fail
          refine (Use13 w.heap.size _ l (ak, l[m].2) w5 HG5.out.1 (by omega)).mono ?_
          rintro e w6 ⟨pv6, rfl, hp6, hb6⟩
          have hNn := len_use_hit l (ak, l[m].2) HS1.out.nodup hk2
          have HT := Av.mk (show Dst w w6 g R ((ak, l[m].2) :: l.filter (fun p => decide (p.1 ≠ ak))) pv6 from
            ⟨⟨v, HL5.out.below hb6⟩, row_mono hp6 HG5.out.2.size, nodup_use l (ak, l[m].2) HS1.out.nodup, by have := HS1.out.fits; have h2 := hNn; simp only at h2 ⊢; omega, below_then HG5.out.2 HG5.out.2.size hb6, HS1.out.at_⟩)
          have XT := Av.mk (X5.out.keep (Keep.of_below (S := fun _ => False) hb6) (by simp))
          obtain ⟨A6', c6', rfl⟩ := own_slice hp6
          have hlN : ((ak, l[m].2) :: l.filter (fun p => decide (p.1 ≠ ak))).length ≤ k := by have h2 := hNn; simp only at h2 ⊢; omega
          clear hp6 hb6 HG5 HL5 HS1 HV X5 X0 d0 d1 y0 y1 hNn HC hk2
          generalize ((ak, l[m].2) :: l.filter (fun p => decide (p.1 ≠ ak))) = LN at *

          go_wp2_with fail
          have HBT := HT.out.below.size
          go_loopw [17, 111] (fun kv i wx => ∃ (j : Nat), j ≤ LN.length ∧ i = .int .i64 j ∧ Strs wx w6.heap.size kv ((LN.take j).map (·.1)) ∧ Below w6.heap.size w6 wx) (fun _ i _ => LN.length - (intOf i).toNat)
          case atStart => exact ⟨0, Nat.zero_le _, rfl, ⟨by simp, .inl ⟨rfl, by simp⟩⟩, Below.refl _ _⟩
          case round =>
            obtain ⟨wx, rfl⟩ : ∃ wx : World, wx = wr := ⟨_, rfl⟩
            obtain ⟨j, hj, rfl, hstr, hbx⟩ := hrel
            have HST := Av.mk hstr
            have HBX := Av.mk hbx
            obtain ⟨A17, c17, hv17⟩ := own_slice hstr
            clear hstr hbx
            by_cases hjl : j < LN.length
            · obtain ⟨r, c3, e, hr, _, hc⟩ := Pairs.shape1 HT.out.prs (by omega)
              cases e
              have HP := row_below HT.out.prs HBX.out
              have x0 : wx.cell? ⟨r, j * 2, none⟩ = some (.string LN[j].1) := Pairs.cell HP j hjl 0 (by omega)
              have x1 : wx.cell? ⟨r, j * 2 + 1, none⟩ = some (.int .i64 LN[j].2) := Pairs.cell HP j hjl 1 (by omega)
              have hz := HBX.out.size
              clear HP
              go_wp2_with (first | (at_builtin; refine wpList_app rfl _ _ 32 rfl w6.heap.size 9 i0 (.string ⟨#[]⟩) 1 16 Try.underlying32 I.out.1 I.out.2.1 I.out.2.2.1 I.out.2.2.2 rfl (by decide) u17 _ _ rfl (row_keep HST.out (((Keep.refl (fun _ => False) wx).alloc (.cells #[.string LN[j].1, .int .i64 LN[j].2] 47)).alloc (.cells #[.string LN[j].1] 9)) (by simp)) ⟨wx.heap.size + 1, 0, none⟩ 1 1 [.string LN[j].1] rfl rfl (by have := new_cells (wx.alloc (.cells #[.string LN[j].1, .int .i64 LN[j].2] 47)) [.string LN[j].1] 9; simpa using this) (by simp [Value.oneCell']) (by unfold maxLen; simp; omega) (by simp; omega) (by simp; omega) ?_; intro A2 c2 w8 hown2 hgrow2 hloc2; have HO3 := Av.mk hown2; have HG3 := Av.mk hgrow2; clear hown2 hgrow2 hloc2))
              have hnr : ∀ i, u17.ownBlock = some i → w6.heap.size ≤ i := fun i hi => row_ge HST.out hi
              have HB3 := Av.mk ((below_alloc (below_alloc HBX.out (.cells #[.string LN[j].1, .int .i64 LN[j].2] 47)) (.cells #[.string LN[j].1] 9)).grown HG3.out (by simp; omega) hnr)
              go_roundw
              case rel =>
                refine ⟨j + 1, by omega, by go_num, ?_, HB3.out⟩
                have := HO3.out
                have e : (LN.take (j + 1)).map (·.1) = (LN.take j).map (·.1) ++ [LN[j].1] := by rw [List.take_succ_eq_append_getElem hjl, List.map_append]; rfl
                have e2 : (LN.take j).length = j := by simp; omega
                rw [e]
                simpa [Strs, e2, Nat.min_eq_left hj] using this
              case measure => simp [intOf]; omega
            · obtain rfl : j = LN.length := by omega
              have HDX := Av.mk (HT.out.keep HBX.out)
              rw [List.take_length] at HST hv17
              rw [List.length_map] at hv17
              subst hv17
              clear HT HBX
              obtain ⟨v9, hv9⟩ := HDX.out.lru
              have HV9 := Av.mk hv9
              clear hv9
              have hfit := HDX.out.fits
              go_wp2_with fail
              refine (len_S g g R v9 _ _ HV9.out).mono ?_
              rintro e _ ⟨rfl, rfl⟩
              go_wp2_with fail
              refine (room_S g g R v9 _ _ HV9.out).mono ?_
              rintro e _ ⟨rfl, rfl⟩
              have hmx : mx room 1 = R := HR.out.symm
              go_wp2_with fail
              refine (len_S g g R v9 _ _ HV9.out).mono ?_
              rintro e _ ⟨rfl, rfl⟩
              go_wp2_with fail
              refine (room_S g g R v9 _ _ HV9.out).mono ?_
              rintro e _ ⟨rfl, rfl⟩
              go_wp2_with fail
              refine (keys_S g g R v9 _ _ HV9.out (by omega)).mono ?_
              rintro e wk ⟨vk, rfl, hsk, hbk⟩
              have HSK := Av.mk hsk
              have HBK := Av.mk hbk
              have HST2 := Av.mk (row_below HST.out hbk)
              clear hsk hbk
              go_wp2_with fail
              refine (Same01 _ _ _ _ _ _ HSK.out HST2.out (by simp; omega)).mono ?_
              rintro e wl ⟨rfl, hbl2⟩
              have HDE := Av.mk ((HDX.out.keep HBK.out).keep hbl2)
              clear hbl2
              go_wp2_with fail
              go_roundw
              case rel => exact ⟨k + 1, LN, by omega, by omega, by go_num, HDE.out⟩
              case measure => simp [intOf]; omega
        · go_wp2_with fail
          have X0 := Av.mk (Blk.new wr 45 #[.string ak, .int .i64 0])
          have HS1 := Av.mk (HS.out.keep (below_alloc (Below.refl _ wr) (.cells #[.string ak, .int .i64 0] 45)))
          clear HS e0 e1
          generalize wr.alloc (.cells #[.string ak, .int .i64 0] 45) = w3 at *
          generalize wr.heap.size = gx at *
          have d0 := X0.out.cell 0
          have d1 := X0.out.cell 1
          have hlx := X0.out.lt
          simp at d0 d1

          refine (Find13 w.heap.size _ l ak w3 HS1.out.prs (by omega) _ rfl).mono ?_
          rintro e _ ⟨rfl, rfl⟩
          obtain ⟨v, hv⟩ := HS1.out.lru
          have HV := Av.mk hv
          clear hv

          have hfn := fnd_not hk2
          rw [hfn]
          have HC := Av.mk (get_not_S g g R v l ak w3 HV.out (by omega) _ rfl hk2)
          clear hfn
          go_wp2_with fail
          refine HC.out.mono ?_
          rintro e w5 ⟨rfl, hl5, k5⟩
          have HG5 := Av.mk (HS1.out.got HV.out hl5 k5)
          have HT := Av.mk (show Dst w w5 g R l (.slice A6 l.length c6) from ⟨⟨v, hl5⟩, HG5.out.1, HS1.out.nodup, HS1.out.fits, HG5.out.2, HS1.out.at_⟩)
          clear hl5 k5 HG5 HS1 HV X0 d0 d1 HC

          go_wp2_with fail
          have HBT := HT.out.below.size
          go_loopw [17, 111] (fun kv i wx => ∃ (j : Nat), j ≤ l.length ∧ i = .int .i64 j ∧ Strs wx w5.heap.size kv ((l.take j).map (·.1)) ∧ Below w5.heap.size w5 wx) (fun _ i _ => l.length - (intOf i).toNat)
          case atStart => exact ⟨0, Nat.zero_le _, rfl, ⟨by simp, .inl ⟨rfl, by simp⟩⟩, Below.refl _ _⟩
          case round =>
            obtain ⟨wx, rfl⟩ : ∃ wx : World, wx = wr := ⟨_, rfl⟩
            obtain ⟨j, hj, rfl, hstr, hbx⟩ := hrel
            have HST := Av.mk hstr
            have HBX := Av.mk hbx
            obtain ⟨A17, c17, hv17⟩ := own_slice hstr
            clear hstr hbx
            by_cases hjl : j < l.length
            · obtain ⟨r, c3, e, hr, _, hc⟩ := Pairs.shape1 HT.out.prs (by omega)
              cases e
              have HP := row_below HT.out.prs HBX.out
              have x0 : wx.cell? ⟨r, j * 2, none⟩ = some (.string l[j].1) := Pairs.cell HP j hjl 0 (by omega)
              have x1 : wx.cell? ⟨r, j * 2 + 1, none⟩ = some (.int .i64 l[j].2) := Pairs.cell HP j hjl 1 (by omega)
              have hz := HBX.out.size
              clear HP
              go_wp2_with (first | (at_builtin; refine wpList_app rfl _ _ 32 rfl w5.heap.size 9 i0 (.string ⟨#[]⟩) 1 16 Try.underlying32 I.out.1 I.out.2.1 I.out.2.2.1 I.out.2.2.2 rfl (by decide) u17 _ _ rfl (row_keep HST.out (((Keep.refl (fun _ => False) wx).alloc (.cells #[.string l[j].1, .int .i64 l[j].2] 47)).alloc (.cells #[.string l[j].1] 9)) (by simp)) ⟨wx.heap.size + 1, 0, none⟩ 1 1 [.string l[j].1] rfl rfl (by have := new_cells (wx.alloc (.cells #[.string l[j].1, .int .i64 l[j].2] 47)) [.string l[j].1] 9; simpa using this) (by simp [Value.oneCell']) (by unfold maxLen; simp; omega) (by simp; omega) (by simp; omega) ?_; intro A2 c2 w8 hown2 hgrow2 hloc2; have HO3 := Av.mk hown2; have HG3 := Av.mk hgrow2; clear hown2 hgrow2 hloc2))
              have hnr : ∀ i, u17.ownBlock = some i → w5.heap.size ≤ i := fun i hi => row_ge HST.out hi
              have HB3 := Av.mk ((below_alloc (below_alloc HBX.out (.cells #[.string l[j].1, .int .i64 l[j].2] 47)) (.cells #[.string l[j].1] 9)).grown HG3.out (by simp; omega) hnr)
              go_roundw
              case rel =>
                refine ⟨j + 1, by omega, by go_num, ?_, HB3.out⟩
                have := HO3.out
                have e : (l.take (j + 1)).map (·.1) = (l.take j).map (·.1) ++ [l[j].1] := by rw [List.take_succ_eq_append_getElem hjl, List.map_append]; rfl
                have e2 : (l.take j).length = j := by simp; omega
                rw [e]
                simpa [Strs, e2, Nat.min_eq_left hj] using this
              case measure => simp [intOf]; omega
            · obtain rfl : j = l.length := by omega
              have HDX := Av.mk (HT.out.keep HBX.out)
              rw [List.take_length] at HST hv17
              rw [List.length_map] at hv17
              subst hv17
              clear HT HBX
              obtain ⟨v9, hv9⟩ := HDX.out.lru
              have HV9 := Av.mk hv9
              clear hv9
              have hfit := HDX.out.fits
              go_wp2_with fail
              refine (len_S g g R v9 _ _ HV9.out).mono ?_
              rintro e _ ⟨rfl, rfl⟩
              go_wp2_with fail
              refine (room_S g g R v9 _ _ HV9.out).mono ?_
              rintro e _ ⟨rfl, rfl⟩
              have hmx : mx room 1 = R := HR.out.symm
              go_wp2_with fail
              refine (len_S g g R v9 _ _ HV9.out).mono ?_
              rintro e _ ⟨rfl, rfl⟩
              go_wp2_with fail
              refine (room_S g g R v9 _ _ HV9.out).mono ?_
              rintro e _ ⟨rfl, rfl⟩
              go_wp2_with fail
              refine (keys_S g g R v9 _ _ HV9.out (by omega)).mono ?_
              rintro e wk ⟨vk, rfl, hsk, hbk⟩
              have HSK := Av.mk hsk
              have HBK := Av.mk hbk
              have HST2 := Av.mk (row_below HST.out hbk)
              clear hsk hbk
              go_wp2_with fail
              refine (Same01 _ _ _ _ _ _ HSK.out HST2.out (by simp; omega)).mono ?_
              rintro e wl ⟨rfl, hbl2⟩
              have HDE := Av.mk ((HDX.out.keep HBK.out).keep hbl2)
              clear hbl2
              go_wp2_with fail
              go_roundw
              case rel => exact ⟨k + 1, l, by omega, by omega, by go_num, HDE.out⟩
              case measure => simp [intOf]; omega
      · have hdz0 : ¬ av = 0 := hz
        go_wp2_with fail
        have X0 := Av.mk (Blk.new wr 45 #[.string ak, .int .i64 av])
        have HS1 := Av.mk (HS.out.keep (below_alloc (Below.refl _ wr) (.cells #[.string ak, .int .i64 av] 45)))
        clear HS e0 e1
        generalize wr.alloc (.cells #[.string ak, .int .i64 av] 45) = w3 at *
        generalize wr.heap.size = gx at *
        have d0 := X0.out.cell 0
        have d1 := X0.out.cell 1
        have hlx := X0.out.lt
        simp at d0 d1

        have hdz : decide (av = 0) = false := by simp [hz]
        obtain ⟨LN, gone, is, hP1, hP2, hnd, hft, hll⟩ := put_both l R (ak, av) HS1.out.nodup HS1.out.fits hR1 (by omega)
        have HP1 := Av.mk hP1
        have HP2 := Av.mk hP2
        have HND := Av.mk hnd
        clear hP1 hP2 hnd
        go_wp2_with fail
        rw [← HR.out]
        refine (HP1.out w3 _ _ HS1.out.prs).mono ?_
        rintro e w4 ⟨pv4, rfl, hp4, hb4⟩
        have HP4 := Av.mk hp4
        have HS4 := Av.mk (HS1.out.keep hb4)
        have X4 := Av.mk (X0.out.keep (Keep.of_below (S := fun _ => False) hb4) (by simp))
        have hz4 := HS1.out.below.size
        obtain ⟨A6', c6', rfl⟩ := own_slice hp4
        clear hp4 hb4
        have d0 := X4.out.cell 0
        have d1 := X4.out.cell 1
        have hlx := X4.out.lt
        simp at d0 d1
        go_wp2_with fail
        obtain ⟨v, hv⟩ := HS4.out.lru
        have HV := Av.mk hv
        clear hv
        refine (HP2.out w4 g v HV.out).mono ?_
        rintro e w5 ⟨rfl, v5, hl5, k5, _⟩
        have HPB := Av.mk (HS4.out.putt HV.out k5)
        have HT := Av.mk (show Dst w w5 g R LN (.slice A6' LN.length c6') from ⟨⟨v5, hl5⟩, HPB.out.2 _ _ (row_mono HP4.out hz4), HND.out, hft, HPB.out.1, HS1.out.at_⟩)
        have hlN : LN.length ≤ k + 1 := by omega
        clear hl5 k5 HPB HP4 HS4 HS1 HV X4 X0 d0 d1 HP1 HP2

        go_wp2_with fail
        have HBT := HT.out.below.size
        go_loopw [17, 111] (fun kv i wx => ∃ (j : Nat), j ≤ LN.length ∧ i = .int .i64 j ∧ Strs wx w5.heap.size kv ((LN.take j).map (·.1)) ∧ Below w5.heap.size w5 wx) (fun _ i _ => LN.length - (intOf i).toNat)
        case atStart => exact ⟨0, Nat.zero_le _, rfl, ⟨by simp, .inl ⟨rfl, by simp⟩⟩, Below.refl _ _⟩
        case round =>
          obtain ⟨wx, rfl⟩ : ∃ wx : World, wx = wr := ⟨_, rfl⟩
          obtain ⟨j, hj, rfl, hstr, hbx⟩ := hrel
          have HST := Av.mk hstr
          have HBX := Av.mk hbx
          obtain ⟨A17, c17, hv17⟩ := own_slice hstr
          clear hstr hbx
          by_cases hjl : j < LN.length
          · obtain ⟨r, c3, e, hr, _, hc⟩ := Pairs.shape1 HT.out.prs (by omega)
            cases e
            have HP := row_below HT.out.prs HBX.out
            have x0 : wx.cell? ⟨r, j * 2, none⟩ = some (.string LN[j].1) := Pairs.cell HP j hjl 0 (by omega)
            have x1 : wx.cell? ⟨r, j * 2 + 1, none⟩ = some (.int .i64 LN[j].2) := Pairs.cell HP j hjl 1 (by omega)
            have hz := HBX.out.size
            clear HP
            go_wp2_with (first | (at_builtin; refine wpList_app rfl _ _ 32 rfl w5.heap.size 9 i0 (.string ⟨#[]⟩) 1 16 Try.underlying32 I.out.1 I.out.2.1 I.out.2.2.1 I.out.2.2.2 rfl (by decide) u17 _ _ rfl (row_keep HST.out (((Keep.refl (fun _ => False) wx).alloc (.cells #[.string LN[j].1, .int .i64 LN[j].2] 47)).alloc (.cells #[.string LN[j].1] 9)) (by simp)) ⟨wx.heap.size + 1, 0, none⟩ 1 1 [.string LN[j].1] rfl rfl (by have := new_cells (wx.alloc (.cells #[.string LN[j].1, .int .i64 LN[j].2] 47)) [.string LN[j].1] 9; simpa using this) (by simp [Value.oneCell']) (by unfold maxLen; simp; omega) (by simp; omega) (by simp; omega) ?_; intro A2 c2 w8 hown2 hgrow2 hloc2; have HO3 := Av.mk hown2; have HG3 := Av.mk hgrow2; clear hown2 hgrow2 hloc2))
            have hnr : ∀ i, u17.ownBlock = some i → w5.heap.size ≤ i := fun i hi => row_ge HST.out hi
            have HB3 := Av.mk ((below_alloc (below_alloc HBX.out (.cells #[.string LN[j].1, .int .i64 LN[j].2] 47)) (.cells #[.string LN[j].1] 9)).grown HG3.out (by simp; omega) hnr)
            go_roundw
            case rel =>
              refine ⟨j + 1, by omega, by go_num, ?_, HB3.out⟩
              have := HO3.out
              have e : (LN.take (j + 1)).map (·.1) = (LN.take j).map (·.1) ++ [LN[j].1] := by rw [List.take_succ_eq_append_getElem hjl, List.map_append]; rfl
              have e2 : (LN.take j).length = j := by simp; omega
              rw [e]
              simpa [Strs, e2, Nat.min_eq_left hj] using this
            case measure => simp [intOf]; omega
          · obtain rfl : j = LN.length := by omega
            have HDX := Av.mk (HT.out.keep HBX.out)
            rw [List.take_length] at HST hv17
            rw [List.length_map] at hv17
            subst hv17
            clear HT HBX
            obtain ⟨v9, hv9⟩ := HDX.out.lru
            have HV9 := Av.mk hv9
            clear hv9
            have hfit := HDX.out.fits
            go_wp2_with fail
            refine (len_S g g R v9 _ _ HV9.out).mono ?_
            rintro e _ ⟨rfl, rfl⟩
            go_wp2_with fail
            refine (room_S g g R v9 _ _ HV9.out).mono ?_
            rintro e _ ⟨rfl, rfl⟩
            have hmx : mx room 1 = R := HR.out.symm
            go_wp2_with fail
            refine (len_S g g R v9 _ _ HV9.out).mono ?_
            rintro e _ ⟨rfl, rfl⟩
            go_wp2_with fail
            refine (room_S g g R v9 _ _ HV9.out).mono ?_
            rintro e _ ⟨rfl, rfl⟩
            go_wp2_with fail
            refine (keys_S g g R v9 _ _ HV9.out (by omega)).mono ?_
            rintro e wk ⟨vk, rfl, hsk, hbk⟩
            have HSK := Av.mk hsk
            have HBK := Av.mk hbk
            have HST2 := Av.mk (row_below HST.out hbk)
            clear hsk hbk
            go_wp2_with fail
            refine (Same01 _ _ _ _ _ _ HSK.out HST2.out (by simp; omega)).mono ?_
            rintro e wl ⟨rfl, hbl2⟩
            have HDE := Av.mk ((HDX.out.keep HBK.out).keep hbl2)
            clear hbl2
            go_wp2_with fail
            go_roundw
            case rel => exact ⟨k + 1, LN, by omega, by omega, by go_num, HDE.out⟩
            case measure => simp [intOf]; omega
    · obtain rfl : k = n := by omega
      have HBE := Av.mk HS.out.below
      go_wp2
      go_ret
      exact ⟨rfl, HBE.out⟩
end Go.Proofs.Ytiopmehaghcpfaa
