/- WireWrites: the walk. -/
import Derived.Test.YtlajflcfpommoaaSpk
namespace Go.Proofs.Ytlajflcfpommoaa
open Go.RowKit Go.Maps

theorem stOf_app (a b : List UInt8) : stOf a ++ stOf b = stOf (a ++ b) := by
  apply ByteArray.ext
  simp [stOf]
theorem app_stOf (a : List UInt8) (s : ByteArray) : stOf a ++ s = stOf (a ++ bsOf s) := by
  rw [← stOf_app, stOf_bsOf]
theorem fits_nat {n sz : Int} (h : fits n sz) : ∃ k : Nat, sz = k ∧ 1 ≤ k ∧ k ≤ 4 ∧ 0 ≤ n ∧ n < 256 ^ k := by
  obtain ⟨h1, h2, h3, h4⟩ := h
  exact ⟨sz.toNat, by omega, by omega, by omega, h3, h4⟩

set_option maxHeartbeats 1000000 in
theorem writes_walk (A : Option Addr) (n c : Nat) (F : Nat → It) (w : World) (hA : Its w A n F) (hn : n ≤ 9223372036854775807) :
    Calls Try.prog 3 #[.slice A n c] w (RetB (.bool true) w) := by
  by_cases hbig : 50 < n
  · go_enter Try.func3, Try.ntmps3
    go_wp2_with fail
    refine (speaks_calls w).mono ?_
    rintro e w1 ⟨rfl, hb1⟩
    have HB1 := Av.mk hb1
    clear hb1
    go_wp2
    go_ret
    exact ⟨rfl, HB1.out⟩
  have hn5 : n ≤ 50 := by omega
  clear hn hbig
  have HA := Av.mk hA
  clear hA
  go_enter Try.func3, Try.ntmps3
  go_wp2_with fail
  refine (speaks_calls w).mono ?_
  rintro e w1 ⟨rfl, hb1⟩
  have HB1 := Av.mk hb1
  have hz1 := hb1.size
  clear hb1
  go_wp2_with fail
  have HW := Av.mk (Wr.new w1 w.heap.size hz1)
  have HB := Av.mk (HB1.out.alloc hz1 (.cells #[.slice none 0 0] 26))
  generalize w1.alloc (.cells #[.slice none 0 0] 26) = w2 at *
  generalize w1.heap.size = g at *
  go_loopw [4, 16] (fun s i wr => ∃ (k : Nat) (bs : List UInt8) (v : Value), k ≤ n ∧ i = .int .i64 k ∧ s = .string (stOf bs) ∧ bs.length ≤ 1004 * k ∧ Wr wr w.heap.size g v bs ∧ Below w.heap.size w wr) (fun _ i _ => n - (intOf i).toNat)
  case atStart => exact ⟨0, [], _, Nat.zero_le _, rfl, rfl, by simp, HW.out, HB.out⟩
  case round =>
    obtain ⟨k, bs, v, hk, rfl, rfl, hlen, hw, hb⟩ := hrel
    have HW2 := Av.mk hw
    have HB2 := Av.mk hb
    have hz := hw.size
    clear hw hb
    by_cases hlt : k < n
    · obtain ⟨b, off, rfl, hbl, hF⟩ := HA.out (by omega)
      obtain ⟨hok, e0, e1, e2, e3⟩ := hF k hlt
      generalize F k = x at *
      clear hF
      obtain ⟨xn, xsz, xs, xis⟩ := x
      simp only at e0 e1 e2 e3
      rw [← HB2.out.cell (p := ⟨b, _, none⟩) hbl] at e0 e1 e2 e3
      obtain ⟨hwn, hwsz, hws⟩ := hok
      simp only at hwn hwsz hws
      have bn := bounds_i64 hwn
      have hxs : xs.size ≤ 9223372036854775807 := by unfold maxLen at hws; omega
      have hn1 := bn.2
      by_cases hlong : 1000 < xs.size
      · go_wp2
        go_ret
        exact ⟨rfl, below_alloc HB2.out _⟩
      have hshort : xs.size ≤ 1000 := by omega
      clear hlong hwn hwsz hws hxs bn
      cases xis with
      | false =>
        go_upto_region 15 with (fail)
        have X2 := Av.mk (Blk.new wr 28 #[.int .i64 xn, .int .i64 xsz, .string xs, .bool false])
        have HW3 := Av.mk (HW2.out.keep ((Keep.refl (fun _ => False) wr).alloc (.cells #[.int .i64 xn, .int .i64 xsz, .string xs, .bool false] 28)) (by simp) (by simp))
        have HB3 := Av.mk (HB2.out.alloc hz (.cells #[.int .i64 xn, .int .i64 xsz, .string xs, .bool false] 28))
        generalize wr.alloc (.cells #[.int .i64 xn, .int .i64 xsz, .string xs, .bool false] 28) = W1 at *
        generalize wr.heap.size = ga at *
        have f0 := X2.out.cell 0
        have f1 := X2.out.cell 1
        have f2 := X2.out.cell 2
        have f3 := X2.out.cell 3
        simp at f0 f1 f2 f3
        clear e0 e1 e2 e3

        go_wp2_with fail
        refine (Fits_calls xn xsz W1 (by omega)).mono ?_
        rintro e w5 ⟨rfl, rfl⟩
        by_cases hf : fits xn xsz
        · obtain ⟨sz, rfl, h1, h4, h0, hlt2⟩ := fits_nat hf
          have hd : decide (fits xn (sz : Int)) = true := decide_eq_true hf
          rw [hd]
          clear hd hf
          have hl7 : (bs ++ be xn sz).length ≤ 1004 * (k + 1) := by simp [be_length]; omega
          go_wp2_with fail
          refine (PutR_calls (stOf bs) xn sz W1 h1 h4 h0 (by omega) (by show bs.length ≤ _; omega)).mono ?_
          rw [stOf_app]
          rintro e w6 ⟨rfl, hb6⟩
          have Y2 := Av.mk (X2.out.keep (Keep.of_below (S := fun _ => False) hb6) (by simp))
          have HW4 := Av.mk (HW3.out.keep (Keep.of_below (S := fun _ => False) hb6) (by simp) (by simp))
          have HB6 := Av.mk (below_then HB3.out HB3.out.size hb6)
          clear hb6 f0 f1 f2 f3
          have g0 := Y2.out.cell 0
          have g1 := Y2.out.cell 1
          have g2 := Y2.out.cell 2
          have g3 := Y2.out.cell 3
          simp at g0 g1 g2 g3
          go_wp2_with fail
          refine (Put_yes _ _ _ _ xn sz w6 HW4.out h1 h4 h0 hlt2 (by omega)).mono ?_
          rintro e w7 ⟨rfl, v7, hw7, hk7, _⟩
          have Z2 := Av.mk (Y2.out.keep hk7 (by rintro (h | h); exact (Y2.out.ne_ HW4.out.blk (by decide)) h; exact HW4.out.ne_row Y2.out (by decide) h))
          have HW7 := Av.mk hw7
          have HB7 := Av.mk (below_keep HB6.out HB6.out.size hk7 HW4.out.base_of)
          clear hw7 hk7 g0 g1 g2 g3
          have g2 := Z2.out.cell 2
          simp at g2
          go_wp2_with fail
          go_roundw
          case rel => exact ⟨k + 1, _, v7, by omega, by go_num, rfl, hl7, HW7.out, HB7.out⟩
          case measure => simp [intOf]; omega
        · have hd : decide (fits xn xsz) = false := decide_eq_false hf
          rw [hd]
          have HC := Av.mk (Put_no g xn xsz W1 hf)
          clear hd hf
          go_wp2_with fail
          refine HC.out.mono ?_
          rintro e w7 ⟨rfl, rfl⟩
          go_wp2_with fail
          go_roundw
          case rel => exact ⟨k + 1, bs, v, by omega, by go_num, rfl, by omega, HW3.out, HB3.out⟩
          case measure => simp [intOf]; omega
      | true =>
        go_upto_region 15 with (fail)
        have X2 := Av.mk (Blk.new wr 28 #[.int .i64 xn, .int .i64 xsz, .string xs, .bool true])
        have HW3 := Av.mk (HW2.out.keep ((Keep.refl (fun _ => False) wr).alloc (.cells #[.int .i64 xn, .int .i64 xsz, .string xs, .bool true] 28)) (by simp) (by simp))
        have HB3 := Av.mk (HB2.out.alloc hz (.cells #[.int .i64 xn, .int .i64 xsz, .string xs, .bool true] 28))
        generalize wr.alloc (.cells #[.int .i64 xn, .int .i64 xsz, .string xs, .bool true] 28) = W1 at *
        generalize wr.heap.size = ga at *
        have f0 := X2.out.cell 0
        have f1 := X2.out.cell 1
        have f2 := X2.out.cell 2
        have f3 := X2.out.cell 3
        simp at f0 f1 f2 f3
        clear e0 e1 e2 e3

        go_wp2_with fail
        refine (Fits_calls (xs.size : Int) xsz W1 (by omega)).mono ?_
        rintro e w5 ⟨rfl, rfl⟩
        by_cases hf : fits (xs.size : Int) xsz
        · obtain ⟨sz, rfl, h1, h4, h0, hlt2⟩ := fits_nat hf
          have hd : decide (fits (xs.size : Int) (sz : Int)) = true := decide_eq_true hf
          rw [hd]
          clear hd hf
          have hl7 : (bs ++ be (xs.size : Int) sz ++ bsOf xs).length ≤ 1004 * (k + 1) := by simp [be_length, bsOf_length]; omega
          go_wp2_with fail
          refine (PutR_calls (stOf bs) (xs.size : Int) sz W1 h1 h4 h0 (by omega) (by show bs.length ≤ _; omega)).mono ?_
          rw [stOf_app]
          rintro e w6 ⟨rfl, hb6⟩
          have Y2 := Av.mk (X2.out.keep (Keep.of_below (S := fun _ => False) hb6) (by simp))
          have HW4 := Av.mk (HW3.out.keep (Keep.of_below (S := fun _ => False) hb6) (by simp) (by simp))
          have HB6 := Av.mk (below_then HB3.out HB3.out.size hb6)
          clear hb6 f0 f1 f2 f3
          have g0 := Y2.out.cell 0
          have g1 := Y2.out.cell 1
          have g2 := Y2.out.cell 2
          have g3 := Y2.out.cell 3
          simp at g0 g1 g2 g3
          go_wp2_with fail
          refine (WText_yes _ _ _ _ xs sz w6 HW4.out h1 h4 hlt2 (by omega) (by omega)).mono ?_
          rintro e w7 ⟨rfl, v7, hw7, hk7⟩
          have Z2 := Av.mk (Y2.out.keep hk7 (by rintro (h | h); exact (Y2.out.ne_ HW4.out.blk (by decide)) h; exact HW4.out.ne_row Y2.out (by decide) h))
          have HW7 := Av.mk hw7
          have HB7 := Av.mk (below_keep HB6.out HB6.out.size hk7 HW4.out.base_of)
          clear hw7 hk7 g0 g1 g2 g3
          have g2 := Z2.out.cell 2
          simp at g2
          have hsz7 : (stOf (bs ++ be (xs.size : Int) sz)).size ≤ 100000 := by show (bs ++ be (xs.size : Int) sz).length ≤ _; simp [be_length]; omega
          go_wp2_with fail
          go_roundw
          case rel => exact ⟨k + 1, _, v7, by omega, by go_num, by rw [app_stOf], hl7, HW7.out, HB7.out⟩
          case measure => simp [intOf]; omega
        · have hd : decide (fits (xs.size : Int) xsz) = false := decide_eq_false hf
          rw [hd]
          have HC := Av.mk (WText_no g xs xsz W1 hf)
          clear hd hf
          go_wp2_with fail
          refine HC.out.mono ?_
          rintro e w7 ⟨rfl, rfl⟩
          go_wp2_with fail
          go_roundw
          case rel => exact ⟨k + 1, bs, v, by omega, by go_num, rfl, by omega, HW3.out, HB3.out⟩
          case measure => simp [intOf]; omega
    · obtain rfl : k = n := by omega
      go_wp2_with fail
      refine (WBytes _ _ _ _ wr HW2.out).mono ?_
      rintro e w5 ⟨rfl, rfl⟩
      go_wp2_with fail
      go_ret
      exact ⟨rfl, HB2.out⟩

end Go.Proofs.Ytlajflcfpommoaa
