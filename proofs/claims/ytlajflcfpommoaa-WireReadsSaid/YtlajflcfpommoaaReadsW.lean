/- WireReads: the walk. -/
import Derived.Test.YtlajflcfpommoaaSpk
namespace Go.Proofs.Ytlajflcfpommoaa
open Go.RowKit Go.Maps

theorem ex_size (s : ByteArray) (a : Nat) : (s.extract a s.size).size = s.size - a := by rw [ByteArray.size_extract]; omega
theorem ex_ex (s : ByteArray) (a k : Nat) : (s.extract a s.size).extract k (s.extract a s.size).size = s.extract (a + k) s.size := by
  rw [ByteArray.extract_extract, ex_size]
  congr 1
  omega
theorem ex_in (s : ByteArray) (a m : Nat) (h : a + m ≤ s.size) : (s.extract a s.size).extract 0 m = s.extract a (a + m) := by
  rw [ByteArray.extract_extract]
  congr 1
  omega
theorem ex_bs (s : ByteArray) (a k : Nat) (h : a + k ≤ s.size) : bsOf (s.extract a (a + k)) = (bsOf (s.extract a s.size)).take k := by
  unfold bsOf
  rw [ByteArray.data_extract, ByteArray.data_extract]
  simp only [Array.toList_extract, List.extract_eq_take_drop]
  rw [List.take_take]
  congr 1
  have : s.size = s.data.size := rfl
  omega

set_option maxRecDepth 100000 in
set_option maxHeartbeats 2000000 in
theorem reads_walk (s : ByteArray) (A : Option Addr) (n c : Nat) (F : Nat → It) (w : World) (hA : Its w A n F) (hn : n ≤ 9223372036854775807) (hsl : s.size ≤ 9223372036854775807) :
    Calls Try.prog 4 #[.string s, .slice A n c] w (RetB (.bool true) w) := by
  by_cases hs2 : 2000 < s.size
  · go_enter Try.func4, Try.ntmps4
    go_wp2_with fail
    refine (speaks_calls w).mono ?_
    rintro e w1 ⟨rfl, hb1⟩
    have HB1 := Av.mk hb1
    clear hb1
    go_wp2
    go_ret
    exact ⟨rfl, HB1.out⟩
  by_cases hbig : 50 < n
  · have hs3 : s.size ≤ 2000 := by omega
    clear hs2 hsl
    go_enter Try.func4, Try.ntmps4
    go_wp2_with fail
    refine (speaks_calls w).mono ?_
    rintro e w1 ⟨rfl, hb1⟩
    have HB1 := Av.mk hb1
    clear hb1
    go_wp2
    go_ret
    exact ⟨rfl, HB1.out⟩
  have hn5 : n ≤ 50 := by omega
  have hs3 : s.size ≤ 2000 := by omega
  clear hn hbig hs2 hsl
  have HA := Av.mk hA
  clear hA
  go_enter Try.func4, Try.ntmps4
  go_wp2_with fail
  refine (speaks_calls w).mono ?_
  rintro e w1 ⟨rfl, hb1⟩
  have HB1 := Av.mk hb1
  have hz1 := hb1.size
  clear hb1
  go_wp2_with fail
  refine (Read_calls s w1).mono ?_
  rintro e w2 ⟨rfl, rfl⟩
  have HR := Av.mk (show Rd (w1.alloc (.cells #[.string s] 46)) w1.heap.size s from Blk.new w1 46 _)
  have HB := Av.mk (HB1.out.alloc hz1 (.cells #[.string s] 46))
  generalize w1.alloc (.cells #[.string s] 46) = w2 at *
  generalize w1.heap.size = g at *
  go_wp2_with fail
  go_loopw [6, 30] (fun t i wr => ∃ (k at_ : Nat), k ≤ n ∧ i = .int .i64 k ∧ at_ ≤ s.size ∧ t = .int .i64 at_ ∧ Rd wr g (s.extract at_ s.size) ∧ Below w.heap.size w wr) (fun _ i _ => n - (intOf i).toNat)
  case atStart => exact ⟨0, 0, Nat.zero_le _, rfl, Nat.zero_le _, rfl, by rw [ByteArray.extract_zero_size]; exact HR.out, HB.out⟩
  case round =>
    obtain ⟨k, at_, hk, rfl, hat, rfl, hr, hb⟩ := hrel
    have HR2 := Av.mk hr
    have HB2 := Av.mk hb
    have hz := hb.size
    clear hr hb
    by_cases hlt : k < n
    · obtain ⟨b, off, rfl, hbl, hF⟩ := HA.out (by omega)
      obtain ⟨hok, e0, e1, e2, e3⟩ := hF k hlt
      generalize F k = x at *
      clear hF
      obtain ⟨xn, xsz, xs, xis⟩ := x
      simp only at e0 e1 e2 e3
      rw [← HB2.out.cell (p := ⟨b, _, none⟩) hbl] at e0 e1 e2 e3
      obtain ⟨hwn, hwsz, hws⟩ := hok
      simp only at hwn hwsz hws
      have bz := bounds_i64 hwsz
      have bz1 := bz.1
      have bz2 := bz.2
      have hrs := ex_size s at_
      have HRS := Av.mk hrs
      clear hrs hwn hws bz hwsz
      by_cases hc1 : xsz < 1
      · have hno := Av.mk (show ¬ (1 ≤ xsz ∧ xsz ≤ 4 ∧ xsz ≤ (s.extract at_ s.size).size) from by rw [HRS.out]; omega)
        have hd1 : decide (1 ≤ xsz) = false := by simp; omega
        cases xis with
        | false =>
          go_upto_region 9 with (fail)
          have X2 := Av.mk (Blk.new wr 28 #[.int .i64 xn, .int .i64 xsz, .string xs, .bool false])
          have HR3 := Av.mk (Blk.keep HR2.out ((Keep.refl (fun _ => False) wr).alloc (.cells #[.int .i64 xn, .int .i64 xsz, .string xs, .bool false] 28)) (by simp))
          have HB3 := Av.mk (HB2.out.alloc hz (.cells #[.int .i64 xn, .int .i64 xsz, .string xs, .bool false] 28))
          generalize wr.alloc (.cells #[.int .i64 xn, .int .i64 xsz, .string xs, .bool false] 28) = W1 at *
          generalize wr.heap.size = ga at *
          have f1 := X2.out.cell 1
          have f3 := X2.out.cell 3
          simp at f1 f3
          clear e0 e1 e2 e3

          go_wp2_with fail
          refine (Take_no g _ xsz W1 HR3.out (by rw [HRS.out]; unfold maxLen; omega) hno.out).mono ?_
          rintro e w7 ⟨rfl, rfl⟩
          go_wp2_with fail
          refine (Left_calls g _ _ HR3.out).mono ?_
          rw [HRS.out]
          rintro e w9 ⟨rfl, rfl⟩
          go_wp2_with fail
          go_roundw
          case rel => exact ⟨k + 1, at_, by omega, by go_num, hat, by go_num, HR3.out, HB3.out⟩
          case measure => simp [intOf]; omega
        | true =>
          go_upto_region 9 with (fail)
          have X2 := Av.mk (Blk.new wr 28 #[.int .i64 xn, .int .i64 xsz, .string xs, .bool true])
          have HR3 := Av.mk (Blk.keep HR2.out ((Keep.refl (fun _ => False) wr).alloc (.cells #[.int .i64 xn, .int .i64 xsz, .string xs, .bool true] 28)) (by simp))
          have HB3 := Av.mk (HB2.out.alloc hz (.cells #[.int .i64 xn, .int .i64 xsz, .string xs, .bool true] 28))
          generalize wr.alloc (.cells #[.int .i64 xn, .int .i64 xsz, .string xs, .bool true] 28) = W1 at *
          generalize wr.heap.size = ga at *
          have f1 := X2.out.cell 1
          have f3 := X2.out.cell 3
          simp at f1 f3
          clear e0 e1 e2 e3

          go_wp2_with fail
          refine (RText_no1 g _ xsz W1 HR3.out (by rw [HRS.out]; unfold maxLen; omega) hno.out).mono ?_
          rintro e w7 ⟨rfl, hr7, hk7⟩
          have HR7 := Av.mk hr7
          have HB7 := Av.mk (below_keep HB3.out HB3.out.size hk7 (by rintro k rfl; assumption))
          have Y2 := Av.mk (X2.out.keep hk7 (fun h => X2.out.ne_ HR3.out (by decide) h))
          clear hr7 hk7 f1 f3
          have g1 := Y2.out.cell 1
          have g3 := Y2.out.cell 3
          simp at g1 g3
          go_wp2_with fail
          refine (Left_calls g _ _ HR7.out).mono ?_
          rw [HRS.out]
          rintro e w9 ⟨rfl, rfl⟩
          go_wp2_with fail
          go_roundw
          case rel => exact ⟨k + 1, at_, by omega, by go_num, hat, by go_num, HR7.out, HB7.out⟩
          case measure => simp [intOf]; omega
      by_cases hc2 : 4 < xsz
      · have hno := Av.mk (show ¬ (1 ≤ xsz ∧ xsz ≤ 4 ∧ xsz ≤ (s.extract at_ s.size).size) from by rw [HRS.out]; omega)
        have hd0 : (1 : Int) ≤ xsz := by omega
        have hd1 : decide (xsz ≤ 4) = false := by simp; omega
        cases xis with
        | false =>
          go_upto_region 9 with (fail)
          have X2 := Av.mk (Blk.new wr 28 #[.int .i64 xn, .int .i64 xsz, .string xs, .bool false])
          have HR3 := Av.mk (Blk.keep HR2.out ((Keep.refl (fun _ => False) wr).alloc (.cells #[.int .i64 xn, .int .i64 xsz, .string xs, .bool false] 28)) (by simp))
          have HB3 := Av.mk (HB2.out.alloc hz (.cells #[.int .i64 xn, .int .i64 xsz, .string xs, .bool false] 28))
          generalize wr.alloc (.cells #[.int .i64 xn, .int .i64 xsz, .string xs, .bool false] 28) = W1 at *
          generalize wr.heap.size = ga at *
          have f1 := X2.out.cell 1
          have f3 := X2.out.cell 3
          simp at f1 f3
          clear e0 e1 e2 e3

          go_wp2_with fail
          refine (Take_no g _ xsz W1 HR3.out (by rw [HRS.out]; unfold maxLen; omega) hno.out).mono ?_
          rintro e w7 ⟨rfl, rfl⟩
          go_wp2_with fail
          refine (Left_calls g _ _ HR3.out).mono ?_
          rw [HRS.out]
          rintro e w9 ⟨rfl, rfl⟩
          go_wp2_with fail
          go_roundw
          case rel => exact ⟨k + 1, at_, by omega, by go_num, hat, by go_num, HR3.out, HB3.out⟩
          case measure => simp [intOf]; omega
        | true =>
          go_upto_region 9 with (fail)
          have X2 := Av.mk (Blk.new wr 28 #[.int .i64 xn, .int .i64 xsz, .string xs, .bool true])
          have HR3 := Av.mk (Blk.keep HR2.out ((Keep.refl (fun _ => False) wr).alloc (.cells #[.int .i64 xn, .int .i64 xsz, .string xs, .bool true] 28)) (by simp))
          have HB3 := Av.mk (HB2.out.alloc hz (.cells #[.int .i64 xn, .int .i64 xsz, .string xs, .bool true] 28))
          generalize wr.alloc (.cells #[.int .i64 xn, .int .i64 xsz, .string xs, .bool true] 28) = W1 at *
          generalize wr.heap.size = ga at *
          have f1 := X2.out.cell 1
          have f3 := X2.out.cell 3
          simp at f1 f3
          clear e0 e1 e2 e3

          go_wp2_with fail
          refine (RText_no1 g _ xsz W1 HR3.out (by rw [HRS.out]; unfold maxLen; omega) hno.out).mono ?_
          rintro e w7 ⟨rfl, hr7, hk7⟩
          have HR7 := Av.mk hr7
          have HB7 := Av.mk (below_keep HB3.out HB3.out.size hk7 (by rintro k rfl; assumption))
          have Y2 := Av.mk (X2.out.keep hk7 (fun h => X2.out.ne_ HR3.out (by decide) h))
          clear hr7 hk7 f1 f3
          have g1 := Y2.out.cell 1
          have g3 := Y2.out.cell 3
          simp at g1 g3
          go_wp2_with fail
          refine (Left_calls g _ _ HR7.out).mono ?_
          rw [HRS.out]
          rintro e w9 ⟨rfl, rfl⟩
          go_wp2_with fail
          go_roundw
          case rel => exact ⟨k + 1, at_, by omega, by go_num, hat, by go_num, HR7.out, HB7.out⟩
          case measure => simp [intOf]; omega
      by_cases hc3 : (s.size : Int) - at_ < xsz
      · have hno := Av.mk (show ¬ (1 ≤ xsz ∧ xsz ≤ 4 ∧ xsz ≤ (s.extract at_ s.size).size) from by rw [HRS.out]; omega)
        have hd0 : (1 : Int) ≤ xsz := by omega
        have hd2 : xsz ≤ 4 := by omega
        have hd1 : decide (xsz ≤ (s.size : Int) - at_) = false := by simp; omega
        cases xis with
        | false =>
          go_upto_region 9 with (fail)
          have X2 := Av.mk (Blk.new wr 28 #[.int .i64 xn, .int .i64 xsz, .string xs, .bool false])
          have HR3 := Av.mk (Blk.keep HR2.out ((Keep.refl (fun _ => False) wr).alloc (.cells #[.int .i64 xn, .int .i64 xsz, .string xs, .bool false] 28)) (by simp))
          have HB3 := Av.mk (HB2.out.alloc hz (.cells #[.int .i64 xn, .int .i64 xsz, .string xs, .bool false] 28))
          generalize wr.alloc (.cells #[.int .i64 xn, .int .i64 xsz, .string xs, .bool false] 28) = W1 at *
          generalize wr.heap.size = ga at *
          have f1 := X2.out.cell 1
          have f3 := X2.out.cell 3
          simp at f1 f3
          clear e0 e1 e2 e3

          go_wp2_with fail
          refine (Take_no g _ xsz W1 HR3.out (by rw [HRS.out]; unfold maxLen; omega) hno.out).mono ?_
          rintro e w7 ⟨rfl, rfl⟩
          go_wp2_with fail
          refine (Left_calls g _ _ HR3.out).mono ?_
          rw [HRS.out]
          rintro e w9 ⟨rfl, rfl⟩
          go_wp2_with fail
          go_roundw
          case rel => exact ⟨k + 1, at_, by omega, by go_num, hat, by go_num, HR3.out, HB3.out⟩
          case measure => simp [intOf]; omega
        | true =>
          go_upto_region 9 with (fail)
          have X2 := Av.mk (Blk.new wr 28 #[.int .i64 xn, .int .i64 xsz, .string xs, .bool true])
          have HR3 := Av.mk (Blk.keep HR2.out ((Keep.refl (fun _ => False) wr).alloc (.cells #[.int .i64 xn, .int .i64 xsz, .string xs, .bool true] 28)) (by simp))
          have HB3 := Av.mk (HB2.out.alloc hz (.cells #[.int .i64 xn, .int .i64 xsz, .string xs, .bool true] 28))
          generalize wr.alloc (.cells #[.int .i64 xn, .int .i64 xsz, .string xs, .bool true] 28) = W1 at *
          generalize wr.heap.size = ga at *
          have f1 := X2.out.cell 1
          have f3 := X2.out.cell 3
          simp at f1 f3
          clear e0 e1 e2 e3

          go_wp2_with fail
          refine (RText_no1 g _ xsz W1 HR3.out (by rw [HRS.out]; unfold maxLen; omega) hno.out).mono ?_
          rintro e w7 ⟨rfl, hr7, hk7⟩
          have HR7 := Av.mk hr7
          have HB7 := Av.mk (below_keep HB3.out HB3.out.size hk7 (by rintro k rfl; assumption))
          have Y2 := Av.mk (X2.out.keep hk7 (fun h => X2.out.ne_ HR3.out (by decide) h))
          clear hr7 hk7 f1 f3
          have g1 := Y2.out.cell 1
          have g3 := Y2.out.cell 3
          simp at g1 g3
          go_wp2_with fail
          refine (Left_calls g _ _ HR7.out).mono ?_
          rw [HRS.out]
          rintro e w9 ⟨rfl, rfl⟩
          go_wp2_with fail
          go_roundw
          case rel => exact ⟨k + 1, at_, by omega, by go_num, hat, by go_num, HR7.out, HB7.out⟩
          case measure => simp [intOf]; omega
      obtain ⟨z, rfl⟩ : ∃ z : Nat, xsz = z := ⟨xsz.toNat, by omega⟩
      have z1 : 1 ≤ z := by omega
      have z4 : z ≤ 4 := by omega
      have zl : at_ + z ≤ s.size := by omega
      have zd1 : decide (1 ≤ z) = true := by simp; omega
      have zd2 : decide (z ≤ 4) = true := by simp; omega
      have zd3 : ((z : Int) ≤ (s.size : Int) - at_) := by omega
      have hbv := beV_bound z ((bsOf (s.extract at_ s.size)).take z) (by rw [List.length_take, bsOf_length, HRS.out]; omega)
      have hbv0 := hbv.1
      have hbv1 : beV ((bsOf (s.extract at_ s.size)).take z) < 4294967296 := by
        have : z = 1 ∨ z = 2 ∨ z = 3 ∨ z = 4 := by omega
        have := hbv.2
        rcases ‹z = 1 ∨ z = 2 ∨ z = 3 ∨ z = 4› with rfl | rfl | rfl | rfl <;> omega
      clear hbv hc1 hc2 hc3
      cases xis with
      | false =>
        go_upto_region 9 with (fail)
        have X2 := Av.mk (Blk.new wr 28 #[.int .i64 xn, .int .i64 (z : Int), .string xs, .bool false])
        have HR3 := Av.mk (Blk.keep HR2.out ((Keep.refl (fun _ => False) wr).alloc (.cells #[.int .i64 xn, .int .i64 (z : Int), .string xs, .bool false] 28)) (by simp))
        have HB3 := Av.mk (HB2.out.alloc hz (.cells #[.int .i64 xn, .int .i64 (z : Int), .string xs, .bool false] 28))
        generalize wr.alloc (.cells #[.int .i64 xn, .int .i64 (z : Int), .string xs, .bool false] 28) = W1 at *
        generalize wr.heap.size = ga at *
        have f1 := X2.out.cell 1
        have f3 := X2.out.cell 3
        simp at f1 f3
        clear e0 e1 e2 e3

        go_wp2_with fail
        refine (GetR_calls (s.extract at_ (at_ + z)) W1 (by rw [ByteArray.size_extract]; omega)).mono ?_
        rw [ex_bs s at_ z (by omega)]
        rintro e w5 ⟨rfl, rfl⟩

        go_wp2_with fail
        refine (Take_yes g _ z W1 HR3.out (by rw [HRS.out]; omega) z1 z4 (by rw [HRS.out]; omega)).mono ?_
        rw [ex_ex]
        rintro e w7 ⟨rfl, hr7, hk7⟩
        have HR7 := Av.mk hr7
        have HB7 := Av.mk (below_keep HB3.out HB3.out.size hk7 (by rintro k rfl; assumption))
        have Y2 := Av.mk (X2.out.keep hk7 (fun h => X2.out.ne_ HR3.out (by decide) h))
        have HS7 := Av.mk (ex_size s (at_ + z))
        clear hr7 hk7 f1 f3
        have g1 := Y2.out.cell 1
        have g3 := Y2.out.cell 3
        simp at g1 g3
        go_wp2_with fail
        refine (Left_calls g _ _ HR7.out).mono ?_
        rw [HS7.out]
        rintro e w9 ⟨rfl, rfl⟩
        go_wp2_with fail
        go_roundw
        case rel => exact ⟨k + 1, at_ + z, by omega, by go_num, by omega, by go_num, HR7.out, HB7.out⟩
        case measure => simp [intOf]; omega
      | true =>
        by_cases hall : beV ((bsOf (s.extract at_ s.size)).take z) ≤ (s.size : Int) - at_ - z
        · obtain ⟨m, hm⟩ : ∃ m : Nat, beV ((bsOf (s.extract at_ s.size)).take z) = m := ⟨(beV ((bsOf (s.extract at_ s.size)).take z)).toNat, by omega⟩
          have HM := Av.mk hm
          rw [hm] at hall
          clear hm hbv0 hbv1

          go_upto_region 9 with (fail)
          have X2 := Av.mk (Blk.new wr 28 #[.int .i64 xn, .int .i64 (z : Int), .string xs, .bool true])
          have HR3 := Av.mk (Blk.keep HR2.out ((Keep.refl (fun _ => False) wr).alloc (.cells #[.int .i64 xn, .int .i64 (z : Int), .string xs, .bool true] 28)) (by simp))
          have HB3 := Av.mk (HB2.out.alloc hz (.cells #[.int .i64 xn, .int .i64 (z : Int), .string xs, .bool true] 28))
          generalize wr.alloc (.cells #[.int .i64 xn, .int .i64 (z : Int), .string xs, .bool true] 28) = W1 at *
          generalize wr.heap.size = ga at *
          have f1 := X2.out.cell 1
          have f3 := X2.out.cell 3
          simp at f1 f3
          clear e0 e1 e2 e3

          go_wp2_with fail
          refine (GetR_calls (s.extract at_ (at_ + z)) W1 (by rw [ByteArray.size_extract]; omega)).mono ?_
          rw [ex_bs s at_ z (by omega)]
          rintro e w5 ⟨rfl, rfl⟩

          rw [HM.out]
          go_wp2_with fail
          refine (RText_yes g _ z m W1 HR3.out (by rw [HRS.out]; omega) z1 z4 (by rw [HRS.out]; omega) HM.out (by rw [HRS.out]; omega)).mono ?_
          rw [HRS.out, show s.size - at_ = (s.extract at_ s.size).size from HRS.out.symm, ex_ex, HRS.out, ex_in s (at_ + z) m (by omega), show s.size - at_ - z = (s.extract (at_ + z) s.size).size from by rw [ex_size]; omega, ex_ex]
          rintro e w7 ⟨rfl, hr7, hk7⟩
          have HR7 := Av.mk hr7
          have HB7 := Av.mk (below_keep HB3.out HB3.out.size hk7 (by rintro k rfl; assumption))
          have Y2 := Av.mk (X2.out.keep hk7 (fun h => X2.out.ne_ HR3.out (by decide) h))
          have HS7 := Av.mk (ex_size s (at_ + z + m))
          clear hr7 hk7 f1 f3
          have g1 := Y2.out.cell 1
          have g3 := Y2.out.cell 3
          simp at g1 g3
          go_wp2_with fail
          refine (Left_calls g _ _ HR7.out).mono ?_
          rw [HS7.out]
          rintro e w9 ⟨rfl, rfl⟩
          go_wp2_with fail
          go_roundw
          case rel => exact ⟨k + 1, at_ + z + m, by omega, by go_num, by omega, by go_num, HR7.out, HB7.out⟩
          case measure => simp [intOf]; omega
        · have hall2 : (s.size : Int) - at_ - z < beV ((bsOf (s.extract at_ s.size)).take z) := by omega
          clear hall

          go_upto_region 9 with (fail)
          have X2 := Av.mk (Blk.new wr 28 #[.int .i64 xn, .int .i64 (z : Int), .string xs, .bool true])
          have HR3 := Av.mk (Blk.keep HR2.out ((Keep.refl (fun _ => False) wr).alloc (.cells #[.int .i64 xn, .int .i64 (z : Int), .string xs, .bool true] 28)) (by simp))
          have HB3 := Av.mk (HB2.out.alloc hz (.cells #[.int .i64 xn, .int .i64 (z : Int), .string xs, .bool true] 28))
          generalize wr.alloc (.cells #[.int .i64 xn, .int .i64 (z : Int), .string xs, .bool true] 28) = W1 at *
          generalize wr.heap.size = ga at *
          have f1 := X2.out.cell 1
          have f3 := X2.out.cell 3
          simp at f1 f3
          clear e0 e1 e2 e3

          go_wp2_with fail
          refine (GetR_calls (s.extract at_ (at_ + z)) W1 (by rw [ByteArray.size_extract]; omega)).mono ?_
          rw [ex_bs s at_ z (by omega)]
          rintro e w5 ⟨rfl, rfl⟩

          go_wp2_with fail
          refine (RText_no2 g _ z W1 HR3.out (by rw [HRS.out]; omega) z1 z4 (by rw [HRS.out]; omega) (by rw [HRS.out]; omega)).mono ?_
          rintro e w7 ⟨rfl, hr7, hk7⟩
          have HR7 := Av.mk hr7
          have HB7 := Av.mk (below_keep HB3.out HB3.out.size hk7 (by rintro k rfl; assumption))
          have Y2 := Av.mk (X2.out.keep hk7 (fun h => X2.out.ne_ HR3.out (by decide) h))
          clear hr7 hk7 f1 f3
          have g1 := Y2.out.cell 1
          have g3 := Y2.out.cell 3
          simp at g1 g3
          go_wp2_with fail
          refine (Left_calls g _ _ HR7.out).mono ?_
          rw [HRS.out]
          rintro e w9 ⟨rfl, rfl⟩
          go_wp2_with fail
          go_roundw
          case rel => exact ⟨k + 1, at_, by omega, by go_num, hat, by go_num, HR7.out, HB7.out⟩
          case measure => simp [intOf]; omega
    · obtain rfl : k = n := by omega
      go_wp2_with fail
      go_ret
      exact ⟨rfl, HB2.out⟩

end Go.Proofs.Ytlajflcfpommoaa
