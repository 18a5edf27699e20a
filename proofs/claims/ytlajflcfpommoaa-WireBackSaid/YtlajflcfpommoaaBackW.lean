/- WireBack: the walk. -/
import Derived.Test.YtlajflcfpommoaaBackP
namespace Go.Proofs.Ytlajflcfpommoaa
open Go.RowKit Go.Maps

theorem Try.info28 : (Try.prog.info? 28).map (fun i => (i.zero, i.size, i.bytes)) = some (some (.agg #[.int .i64 0, .int .i64 0, .string ByteArray.empty, .bool false]), 4, 40) := by kernel_rfl
theorem fits_nat {n sz : Int} (h : fits n sz) : ∃ k : Nat, sz = k ∧ 1 ≤ k ∧ k ≤ 4 ∧ 0 ≤ n ∧ n < 256 ^ k := by
  obtain ⟨h1, h2, h3, h4⟩ := h
  exact ⟨sz.toNat, by omega, by omega, by omega, h3, h4⟩

/-- The row of what was written. -/
structure Put (w : World) (base : Nat) (v : Value) (l : List It) : Prop where
  row : w.ownsRow base 28 4 v l.length (rowOf l)
  ok : ∀ x ∈ l, Okd x
theorem Put.keep {w w' : World} {base : Nat} {v : Value} {l : List It} {S : Nat → Prop} (h : Put w base v l) (hk : Keep S w w') (h2 : ∀ k, v.ownBlock = some k → ¬ S k) : Put w' base v l := ⟨row_keep h.row hk h2, h.ok⟩
theorem Put.apart {w : World} {base g : Nat} {v pv : Value} {bs : List UInt8} {l : List It} (h : Put w base pv l) (hw : Wr w base g v bs) : ∀ k, pv.ownBlock = some k → ¬ (k = g ∨ some k = v.ownBlock) := by
  intro k hk
  rcases h.row.2 with ⟨rfl, _⟩ | ⟨r, cap, cur, rfl, _, hh, _⟩
  · simp [Value.ownBlock] at hk
  · have : r = k := by simpa [Value.ownBlock] using hk
    subst this
    have hb : Blk w r 28 cur := hh
    rintro (h | h)
    · exact hb.ne_ hw.blk (by decide) h
    · exact hw.ne_row hb (by decide) h
theorem Put.far {w : World} {base b : Nat} {pv : Value} {l : List It} {t : TypeId} {cs : Array Value} (h : Put w base pv l) (hb : Blk w b t cs) (ht : t ≠ 28) : ∀ k, pv.ownBlock = some k → ¬ (k = b) := by
  intro k hk e
  subst e
  exact row_ne h.row hb ht hk.symm
theorem Put.base_of {w : World} {base : Nat} {pv : Value} {l : List It} (h : Put w base pv l) : ∀ k, pv.ownBlock = some k → base ≤ k := by
  intro k hk
  rcases h.row.2 with ⟨rfl, _⟩ | ⟨r, cap, cur, rfl, hb, hh, _⟩
  · simp [Value.ownBlock] at hk
  · have : r = k := by simpa [Value.ownBlock] using hk
    omega
/-- The row as a slice that is read. -/
theorem Put.its {w : World} {base : Nat} {v : Value} {l : List It} (h : Put w base v l) : ∃ A c, v = .slice A l.length c ∧ (∀ j (hj : j < l.length), ∃ r, A = some ⟨r, 0, none⟩ ∧
    w.cell? ⟨r, j * 4, none⟩ = some (.int .i64 l[j].n) ∧ w.cell? ⟨r, j * 4 + 1, none⟩ = some (.int .i64 l[j].sz) ∧ w.cell? ⟨r, j * 4 + 2, none⟩ = some (.string l[j].s) ∧ w.cell? ⟨r, j * 4 + 3, none⟩ = some (.bool l[j].is)) := by
  rcases h.row.2 with ⟨rfl, h0⟩ | ⟨r, cap, cur, rfl, _⟩
  · exact ⟨none, 0, by rw [h0], fun j hj => by omega⟩
  · refine ⟨_, cap, rfl, fun j hj => ⟨r, rfl, ?_, ?_, ?_, ?_⟩⟩
    · have := h.row.cellAt (j * 4) (by omega); rw [this]; exact rowOf_get l j 0 hj (by decide)
    · have := h.row.cellAt (j * 4 + 1) (by omega); rw [this]; exact rowOf_get l j 1 hj (by decide)
    · have := h.row.cellAt (j * 4 + 2) (by omega); rw [this]; exact rowOf_get l j 2 hj (by decide)
    · have := h.row.cellAt (j * 4 + 3) (by omega); rw [this]; exact rowOf_get l j 3 hj (by decide)
theorem cells_new (w : World) (x : It) (j : Nat) (u : Value) (h : x.cells[j]? = some u) : (w.alloc (.cells #[.int .i64 x.n, .int .i64 x.sz, .string x.s, .bool x.is] 28)).cell? ((⟨w.heap.size, 0, none⟩ : Addr).add j) = some u := by
  have hb := Blk.new w 28 #[.int .i64 x.n, .int .i64 x.sz, .string x.s, .bool x.is]
  have e : (⟨w.heap.size, 0, none⟩ : Addr).add j = ⟨w.heap.size, j, none⟩ := by unfold Addr.add; split <;> simp_all
  rw [e, hb.cell j]
  simpa [It.cells] using h
theorem cells_one (x : It) : ∀ u ∈ x.cells, u.oneCell' = true := by
  intro u hu
  simp [It.cells] at hu
  rcases hu with rfl | rfl | rfl | rfl <;> rfl

set_option maxRecDepth 100000 in
set_option maxHeartbeats 2000000 in
theorem back_walk (A : Option Addr) (n c : Nat) (F : Nat → It) (w : World) (hA : Its w A n F) (hn : n ≤ 9223372036854775807) :
    Calls Try.prog 5 #[.slice A n c] w (RetB (.bool true) w) := by
  by_cases hbig : 50 < n
  · go_enter Try.func5, Try.ntmps5
    go_wp2_with fail
    refine (speaks_calls w).mono ?_
    rintro e w1 ⟨rfl, hb1⟩
    have HB1 := Av.mk hb1
    clear hb1
    go_wp2
    go_ret
    exact ⟨rfl, HB1.out⟩
  have hn5 : n ≤ 50 := by omega
  clear hn hbig
  have HA := Av.mk hA
  clear hA
  obtain ⟨i0, hi, hz0, hz1, hz2⟩ := info_parts Try.info28
  have I := Av.mk (And.intro hi (And.intro hz0 (And.intro hz1 hz2)))
  clear hi hz0 hz1 hz2
  go_enter Try.func5, Try.ntmps5
  go_wp2_with fail
  refine (speaks_calls w).mono ?_
  rintro e w1 ⟨rfl, hb1⟩
  have HB1 := Av.mk hb1
  have hz1 := hb1.size
  clear hb1
  go_wp2_with fail
  have HW := Av.mk (Wr.new w1 w.heap.size hz1)
  have HB := Av.mk (HB1.out.alloc hz1 (.cells #[.slice none 0 0] 26))
  generalize w1.alloc (.cells #[.slice none 0 0] 26) = w2 at *
  generalize w1.heap.size = g at *
  go_loopw [4, 21] (fun pv i wr => ∃ (k : Nat) (l : List It) (v : Value), k ≤ n ∧ i = .int .i64 k ∧ l.length ≤ k ∧ (encs l).length ≤ 1004 * k ∧ Put wr w.heap.size pv l ∧ Wr wr w.heap.size g v (encs l) ∧ Below w.heap.size w wr) (fun _ i _ => n - (intOf i).toNat)
  case atStart => exact ⟨0, [], _, Nat.zero_le _, rfl, Nat.le_refl _, by simp [encs], ⟨⟨rfl, .inl ⟨rfl, rfl⟩⟩, by simp⟩, HW.out, HB.out⟩
  case round =>
    obtain ⟨k, l, v, hk, rfl, hll, hel, hp, hw, hb⟩ := hrel
    have HP2 := Av.mk hp
    have HW2 := Av.mk hw
    have HB2 := Av.mk hb
    have hz := hw.size
    clear hw hb hp
    by_cases hlt : k < n
    · obtain ⟨b, off, rfl, hbl, hF⟩ := HA.out (by omega)
      obtain ⟨hok, e0, e1, e2, e3⟩ := hF k hlt
      generalize F k = x at *
      clear hF
      obtain ⟨xn, xsz, xs, xis⟩ := x
      simp only at e0 e1 e2 e3
      rw [← HB2.out.cell (p := ⟨b, _, none⟩) hbl] at e0 e1 e2 e3
      obtain ⟨hwn, hwsz, hws⟩ := hok
      simp only at hwn hwsz hws
      have HWN := Av.mk hwn
      have hxs : xs.size ≤ 9223372036854775807 := by unfold maxLen at hws; omega
      by_cases hlong : 1000 < xs.size
      · go_wp2
        go_ret
        exact ⟨rfl, below_alloc HB2.out _⟩
      have hshort : xs.size ≤ 1000 := by omega
      clear hlong hwn hwsz hws hxs
      cases xis with
      | false =>
        by_cases hf : fits xn xsz
        · obtain ⟨sz, rfl, h1, h4, h0, hlt2⟩ := fits_nat hf
          have hok2 := Av.mk (show Okd (⟨xn, sz, xs, false⟩ : It) from ⟨hf, hshort, HWN.out⟩)
          clear hf

          go_upto_region 12 with (fail)
          have X2 := Av.mk (Blk.new wr 28 #[.int .i64 xn, .int .i64 (sz : Int), .string xs, .bool false])
          have HW3 := Av.mk (HW2.out.keep ((Keep.refl (fun _ => False) wr).alloc (.cells #[.int .i64 xn, .int .i64 (sz : Int), .string xs, .bool false] 28)) (by simp) (by simp))
          have HP3 := Av.mk (HP2.out.keep ((Keep.refl (fun _ => False) wr).alloc (.cells #[.int .i64 xn, .int .i64 (sz : Int), .string xs, .bool false] 28)) (by simp))
          have HB3 := Av.mk (HB2.out.alloc hz (.cells #[.int .i64 xn, .int .i64 (sz : Int), .string xs, .bool false] 28))
          generalize wr.alloc (.cells #[.int .i64 xn, .int .i64 (sz : Int), .string xs, .bool false] 28) = W1 at *
          generalize wr.heap.size = ga at *
          have f0 := X2.out.cell 0
          have f1 := X2.out.cell 1
          have f2 := X2.out.cell 2
          have f3 := X2.out.cell 3
          simp at f0 f1 f2 f3
          clear e0 e1 e2 e3

          go_wp2_with fail
          refine (Put_yes _ _ _ _ xn sz W1 HW3.out h1 h4 h0 hlt2 (by omega)).mono ?_
          rintro e w7 ⟨rfl, v7, hw7, hk7, _⟩
          rw [show encs l ++ be xn sz = encs (l ++ [(⟨xn, sz, xs, false⟩ : It)]) from by rw [encs_snoc, It.enc, It.num]; simp] at hw7
          have Z2 := Av.mk (X2.out.keep hk7 (by rintro (h | h); exact (X2.out.ne_ HW3.out.blk (by decide)) h; exact HW3.out.ne_row X2.out (by decide) h))
          have HP7 := Av.mk (HP3.out.keep hk7 (HP3.out.apart HW3.out))
          have HW7 := Av.mk hw7
          have HB7 := Av.mk (below_keep HB3.out HB3.out.size hk7 HW3.out.base_of)
          have hl7 : (encs (l ++ [(⟨xn, sz, xs, false⟩ : It)])).length ≤ 1004 * (k + 1) := by rw [encs_snoc, List.length_append]; have := enc_le hok2.out; omega
          clear hw7 hk7 f0 f1 f2 f3
          have g0 := Z2.out.cell 0
          have g1 := Z2.out.cell 1
          have g2 := Z2.out.cell 2
          have g3 := Z2.out.cell 3
          have hz7 := HB7.out.size
          simp at g0 g1 g2 g3
          go_wp2_with (first | (at_builtin; refine wpList_app rfl _ _ 22 rfl w.heap.size 28 i0 (.agg #[.int .i64 0, .int .i64 0, .string ByteArray.empty, .bool false]) 4 40 Try.underlying22 I.out.1 I.out.2.1 I.out.2.2.1 I.out.2.2.2 rfl (by decide) u4 l.length (rowOf l) rfl (HP7.out.row.alloc _) ⟨w7.heap.size, 0, none⟩ 1 1 (⟨xn, sz, xs, false⟩ : It).cells rfl rfl (cells_new w7 (⟨xn, sz, xs, false⟩ : It)) (cells_one (⟨xn, sz, xs, false⟩ : It)) (by unfold maxLen; omega) (by omega) (by simp; omega) ?_; intro A2 c2 w8 hown2 hgrow2 hloc2; have HO := Av.mk hown2; have HG := Av.mk hgrow2; clear hown2 hgrow2 hloc2))
          have HA8 := Av.mk ((Keep.refl (fun _ => False) w7).alloc (.cells #[.int .i64 xn, .int .i64 sz, .string xs, .bool false] 28))
          have HK8 := Av.mk ((HA8.out.mono (S' := fun k => some k = u4.ownBlock) (fun _ _ h => h.elim)).grown HG.out (fun k e _ => e.symm))
          have HW8 := Av.mk (HW7.out.keep HK8.out (fun h => row_ne HP7.out.row HW7.out.blk (by decide) h) (fun k e h => HP7.out.apart HW7.out k h.symm (.inr e.symm)))
          have HP8 := Av.mk (show Put w8 w.heap.size (.slice A2 (l.length + 1) c2) (l ++ [(⟨xn, sz, xs, false⟩ : It)]) from ⟨by rw [rowOf_snoc, List.length_append]; exact HO.out, by
            intro y hy
            rcases List.mem_append.1 hy with hy | hy
            · exact HP7.out.ok y hy
            · simp at hy; subst hy; exact hok2.out⟩)
          have HB8 := Av.mk (below_keep HB7.out HB7.out.size HK8.out (fun k h => HP7.out.base_of k h.symm))
          go_roundw
          case rel => exact ⟨k + 1, l ++ [(⟨xn, sz, xs, false⟩ : It)], v7, by omega, by go_num, by simp; omega, hl7, HP8.out, HW8.out, HB8.out⟩
          case measure => simp [intOf]; omega
        · go_upto_region 12 with (fail)
          have X2 := Av.mk (Blk.new wr 28 #[.int .i64 xn, .int .i64 xsz, .string xs, .bool false])
          have HW3 := Av.mk (HW2.out.keep ((Keep.refl (fun _ => False) wr).alloc (.cells #[.int .i64 xn, .int .i64 xsz, .string xs, .bool false] 28)) (by simp) (by simp))
          have HP3 := Av.mk (HP2.out.keep ((Keep.refl (fun _ => False) wr).alloc (.cells #[.int .i64 xn, .int .i64 xsz, .string xs, .bool false] 28)) (by simp))
          have HB3 := Av.mk (HB2.out.alloc hz (.cells #[.int .i64 xn, .int .i64 xsz, .string xs, .bool false] 28))
          generalize wr.alloc (.cells #[.int .i64 xn, .int .i64 xsz, .string xs, .bool false] 28) = W1 at *
          generalize wr.heap.size = ga at *
          have f0 := X2.out.cell 0
          have f1 := X2.out.cell 1
          have f2 := X2.out.cell 2
          have f3 := X2.out.cell 3
          simp at f0 f1 f2 f3
          clear e0 e1 e2 e3

          have HC := Av.mk (Put_no g xn xsz W1 hf)
          clear hf
          go_wp2_with fail
          refine HC.out.mono ?_
          rintro e w7 ⟨rfl, rfl⟩
          go_wp2_with fail
          go_roundw
          case rel => exact ⟨k + 1, l, v, by omega, by go_num, by omega, by omega, HP3.out, HW3.out, HB3.out⟩
          case measure => simp [intOf]; omega
      | true =>
        by_cases hf : fits (xs.size : Int) xsz
        · obtain ⟨sz, rfl, h1, h4, h0, hlt2⟩ := fits_nat hf
          have hok2 := Av.mk (show Okd (⟨xn, sz, xs, true⟩ : It) from ⟨hf, hshort, HWN.out⟩)
          clear hf

          go_upto_region 12 with (fail)
          have X2 := Av.mk (Blk.new wr 28 #[.int .i64 xn, .int .i64 (sz : Int), .string xs, .bool true])
          have HW3 := Av.mk (HW2.out.keep ((Keep.refl (fun _ => False) wr).alloc (.cells #[.int .i64 xn, .int .i64 (sz : Int), .string xs, .bool true] 28)) (by simp) (by simp))
          have HP3 := Av.mk (HP2.out.keep ((Keep.refl (fun _ => False) wr).alloc (.cells #[.int .i64 xn, .int .i64 (sz : Int), .string xs, .bool true] 28)) (by simp))
          have HB3 := Av.mk (HB2.out.alloc hz (.cells #[.int .i64 xn, .int .i64 (sz : Int), .string xs, .bool true] 28))
          generalize wr.alloc (.cells #[.int .i64 xn, .int .i64 (sz : Int), .string xs, .bool true] 28) = W1 at *
          generalize wr.heap.size = ga at *
          have f0 := X2.out.cell 0
          have f1 := X2.out.cell 1
          have f2 := X2.out.cell 2
          have f3 := X2.out.cell 3
          simp at f0 f1 f2 f3
          clear e0 e1 e2 e3

          go_wp2_with fail
          refine (WText_yes _ _ _ _ xs sz W1 HW3.out h1 h4 hlt2 (by omega) (by omega)).mono ?_
          rintro e w7 ⟨rfl, v7, hw7, hk7⟩
          rw [show encs l ++ be (xs.size : Int) sz ++ bsOf xs = encs (l ++ [(⟨xn, sz, xs, true⟩ : It)]) from by rw [encs_snoc, It.enc, It.num]; simp [List.append_assoc]] at hw7
          have Z2 := Av.mk (X2.out.keep hk7 (by rintro (h | h); exact (X2.out.ne_ HW3.out.blk (by decide)) h; exact HW3.out.ne_row X2.out (by decide) h))
          have HP7 := Av.mk (HP3.out.keep hk7 (HP3.out.apart HW3.out))
          have HW7 := Av.mk hw7
          have HB7 := Av.mk (below_keep HB3.out HB3.out.size hk7 HW3.out.base_of)
          have hl7 : (encs (l ++ [(⟨xn, sz, xs, true⟩ : It)])).length ≤ 1004 * (k + 1) := by rw [encs_snoc, List.length_append]; have := enc_le hok2.out; omega
          clear hw7 hk7 f0 f1 f2 f3
          have g0 := Z2.out.cell 0
          have g1 := Z2.out.cell 1
          have g2 := Z2.out.cell 2
          have g3 := Z2.out.cell 3
          have hz7 := HB7.out.size
          simp at g0 g1 g2 g3
          go_wp2_with (first | (at_builtin; refine wpList_app rfl _ _ 22 rfl w.heap.size 28 i0 (.agg #[.int .i64 0, .int .i64 0, .string ByteArray.empty, .bool false]) 4 40 Try.underlying22 I.out.1 I.out.2.1 I.out.2.2.1 I.out.2.2.2 rfl (by decide) u4 l.length (rowOf l) rfl (HP7.out.row.alloc _) ⟨w7.heap.size, 0, none⟩ 1 1 (⟨xn, sz, xs, true⟩ : It).cells rfl rfl (cells_new w7 (⟨xn, sz, xs, true⟩ : It)) (cells_one (⟨xn, sz, xs, true⟩ : It)) (by unfold maxLen; omega) (by omega) (by simp; omega) ?_; intro A2 c2 w8 hown2 hgrow2 hloc2; have HO := Av.mk hown2; have HG := Av.mk hgrow2; clear hown2 hgrow2 hloc2))
          have HA8 := Av.mk ((Keep.refl (fun _ => False) w7).alloc (.cells #[.int .i64 xn, .int .i64 sz, .string xs, .bool true] 28))
          have HK8 := Av.mk ((HA8.out.mono (S' := fun k => some k = u4.ownBlock) (fun _ _ h => h.elim)).grown HG.out (fun k e _ => e.symm))
          have HW8 := Av.mk (HW7.out.keep HK8.out (fun h => row_ne HP7.out.row HW7.out.blk (by decide) h) (fun k e h => HP7.out.apart HW7.out k h.symm (.inr e.symm)))
          have HP8 := Av.mk (show Put w8 w.heap.size (.slice A2 (l.length + 1) c2) (l ++ [(⟨xn, sz, xs, true⟩ : It)]) from ⟨by rw [rowOf_snoc, List.length_append]; exact HO.out, by
            intro y hy
            rcases List.mem_append.1 hy with hy | hy
            · exact HP7.out.ok y hy
            · simp at hy; subst hy; exact hok2.out⟩)
          have HB8 := Av.mk (below_keep HB7.out HB7.out.size HK8.out (fun k h => HP7.out.base_of k h.symm))
          go_roundw
          case rel => exact ⟨k + 1, l ++ [(⟨xn, sz, xs, true⟩ : It)], v7, by omega, by go_num, by simp; omega, hl7, HP8.out, HW8.out, HB8.out⟩
          case measure => simp [intOf]; omega
        · go_upto_region 12 with (fail)
          have X2 := Av.mk (Blk.new wr 28 #[.int .i64 xn, .int .i64 xsz, .string xs, .bool true])
          have HW3 := Av.mk (HW2.out.keep ((Keep.refl (fun _ => False) wr).alloc (.cells #[.int .i64 xn, .int .i64 xsz, .string xs, .bool true] 28)) (by simp) (by simp))
          have HP3 := Av.mk (HP2.out.keep ((Keep.refl (fun _ => False) wr).alloc (.cells #[.int .i64 xn, .int .i64 xsz, .string xs, .bool true] 28)) (by simp))
          have HB3 := Av.mk (HB2.out.alloc hz (.cells #[.int .i64 xn, .int .i64 xsz, .string xs, .bool true] 28))
          generalize wr.alloc (.cells #[.int .i64 xn, .int .i64 xsz, .string xs, .bool true] 28) = W1 at *
          generalize wr.heap.size = ga at *
          have f0 := X2.out.cell 0
          have f1 := X2.out.cell 1
          have f2 := X2.out.cell 2
          have f3 := X2.out.cell 3
          simp at f0 f1 f2 f3
          clear e0 e1 e2 e3

          have HC := Av.mk (WText_no g xs xsz W1 hf)
          clear hf
          go_wp2_with fail
          refine HC.out.mono ?_
          rintro e w7 ⟨rfl, rfl⟩
          go_wp2_with fail
          go_roundw
          case rel => exact ⟨k + 1, l, v, by omega, by go_num, by omega, by omega, HP3.out, HW3.out, HB3.out⟩
          case measure => simp [intOf]; omega
    · obtain rfl : k = n := by omega
      obtain ⟨PA, pc, rfl, _⟩ := HP2.out.its
      go_wp2_with fail
      refine (WBytes _ _ _ _ wr HW2.out).mono ?_
      rintro e w5 ⟨rfl, rfl⟩
      go_wp2_with fail
      refine (Read_calls _ wr).mono ?_
      rintro e w6 ⟨rfl, rfl⟩
      have HR := Av.mk (show Rd (wr.alloc (.cells #[.string (stOf (encs l))] 46)) wr.heap.size (stOf (encs l)) from Blk.new wr 46 _)
      have HP3 := Av.mk (HP2.out.keep ((Keep.refl (fun _ => False) wr).alloc (.cells #[.string (stOf (encs l))] 46)) (by simp))
      have HB3 := Av.mk (HB2.out.alloc hz (.cells #[.string (stOf (encs l))] 46))
      generalize wr.alloc (.cells #[.string (stOf (encs l))] 46) = w6 at *
      generalize wr.heap.size = gr at *
      go_wp2_with fail
      go_loopw [59] (fun i wx => ∃ (j : Nat), j ≤ l.length ∧ i = .int .i64 j ∧ Rd wx gr (stOf (encs (l.drop j))) ∧ Put wx w.heap.size (.slice PA l.length pc) l ∧ Below w.heap.size w wx) (fun i _ => l.length - (intOf i).toNat)
      case atStart => exact ⟨0, Nat.zero_le _, rfl, HR.out, HP3.out, HB3.out⟩
      case round =>
        obtain ⟨j, hj, rfl, hr, hp, hb⟩ := hrel
        have HR2 := Av.mk hr
        have HP4 := Av.mk hp
        have HB4 := Av.mk hb
        have hzx := hb.size
        clear hr hp hb
        obtain ⟨wx, rfl⟩ : ∃ wx : World, wx = wr := ⟨_, rfl⟩
        by_cases hlt : j < l.length
        · obtain ⟨A', c', hv, hcells⟩ := HP4.out.its
          injection hv with hA' _ hc'
          subst hA' hc'
          obtain ⟨r, rfl, e0, e1, e2, e3⟩ := hcells j hlt
          clear hcells
          have hok := HP4.out.ok l[j] (List.getElem_mem hlt)
          have hdr : l.drop j = l[j] :: l.drop (j + 1) := List.drop_eq_getElem_cons hlt
          have henc : encs (l.drop j) = l[j].enc ++ encs (l.drop (j + 1)) := by rw [hdr, encs, List.flatMap_cons]; rfl
          have hlen : (encs (l.drop j)).length ≤ 60000 := by
            have h1 : (encs l).length = (encs (l.take j)).length + (encs (l.drop j)).length := by
              rw [← List.length_append, encs, encs, encs, ← List.flatMap_append, List.take_append_drop]
            omega
          rw [henc] at HR2 hlen
          clear hdr henc
          generalize l[j] = x at *
          obtain ⟨xn, xsz, xs, xis⟩ := x
          obtain ⟨hf, hshort, hwn⟩ := hok
          simp only at e0 e1 e2 e3 hshort hwn
          obtain ⟨z, hz', z1, z4, h0, hlt2⟩ := fits_nat hf
          simp only at hz'
          subst hz'
          have bn := bounds_i64 hwn
          have bn1 := bn.1
          have bn2 := bn.2
          clear hf hwn bn
          cases xis with
          | false =>
            simp only [It.enc, It.num, Int.toNat_natCast, Bool.false_eq_true, if_false, List.append_nil] at HR2 hlen h0 hlt2

            go_upto_region 19 with (fail)
            have X2 := Av.mk (Blk.new wx 28 #[.int .i64 xn, .int .i64 (z : Int), .string xs, .bool false])
            have HR3 := Av.mk (Blk.keep HR2.out ((Keep.refl (fun _ => False) wx).alloc (.cells #[.int .i64 xn, .int .i64 (z : Int), .string xs, .bool false] 28)) (by simp))
            have HP3 := Av.mk (HP4.out.keep ((Keep.refl (fun _ => False) wx).alloc (.cells #[.int .i64 xn, .int .i64 (z : Int), .string xs, .bool false] 28)) (by simp))
            have HB5 := Av.mk (HB4.out.alloc hzx (.cells #[.int .i64 xn, .int .i64 (z : Int), .string xs, .bool false] 28))
            generalize wx.alloc (.cells #[.int .i64 xn, .int .i64 (z : Int), .string xs, .bool false] 28) = W1 at *
            generalize wx.heap.size = ga at *
            have f0 := X2.out.cell 0
            have f1 := X2.out.cell 1
            have f2 := X2.out.cell 2
            have f3 := X2.out.cell 3
            simp at f0 f1 f2 f3
            clear e0 e1 e2 e3

            go_wp2_with fail
            refine (Take_yes gr _ z W1 HR3.out (by rw [stOf_size]; omega) z1 z4 (by rw [stOf_size, List.length_append, be_length]; omega)).mono ?_
            rw [num_left h0 hlt2, ex_left _ _ z (be_length _ _)]
            rintro e w7 ⟨rfl, hr7, hk7⟩
            have HR7 := Av.mk hr7
            have Z2 := Av.mk (X2.out.keep hk7 (fun h => X2.out.ne_ HR3.out (by decide) h))
            have HP7 := Av.mk (HP3.out.keep hk7 (HP3.out.far HR3.out (by decide)))
            have HB7 := Av.mk (below_keep HB5.out HB5.out.size hk7 (by rintro k rfl; assumption))
            clear hr7 hk7 f0 f1 f2 f3
            have g0 := Z2.out.cell 0
            have g1 := Z2.out.cell 1
            have g2 := Z2.out.cell 2
            have g3 := Z2.out.cell 3
            simp at g0 g1 g2 g3
            go_wp2_with fail
            go_roundw
            case rel => exact ⟨j + 1, by omega, by go_num, HR7.out, HP7.out, HB7.out⟩
            case measure => simp [intOf]; omega
          | true =>
            simp only [It.enc, It.num, Int.toNat_natCast, if_true] at HR2 hlen h0 hlt2

            go_upto_region 19 with (fail)
            have X2 := Av.mk (Blk.new wx 28 #[.int .i64 xn, .int .i64 (z : Int), .string xs, .bool true])
            have HR3 := Av.mk (Blk.keep HR2.out ((Keep.refl (fun _ => False) wx).alloc (.cells #[.int .i64 xn, .int .i64 (z : Int), .string xs, .bool true] 28)) (by simp))
            have HP3 := Av.mk (HP4.out.keep ((Keep.refl (fun _ => False) wx).alloc (.cells #[.int .i64 xn, .int .i64 (z : Int), .string xs, .bool true] 28)) (by simp))
            have HB5 := Av.mk (HB4.out.alloc hzx (.cells #[.int .i64 xn, .int .i64 (z : Int), .string xs, .bool true] 28))
            generalize wx.alloc (.cells #[.int .i64 xn, .int .i64 (z : Int), .string xs, .bool true] 28) = W1 at *
            generalize wx.heap.size = ga at *
            have f0 := X2.out.cell 0
            have f1 := X2.out.cell 1
            have f2 := X2.out.cell 2
            have f3 := X2.out.cell 3
            simp at f0 f1 f2 f3
            clear e0 e1 e2 e3

            go_wp2_with fail
            refine (RText_yes gr _ z xs.size W1 HR3.out (by rw [stOf_size]; omega) z1 z4 (by rw [stOf_size, List.length_append, List.length_append, be_length]; omega) (by rw [List.append_assoc]; exact num_left h0 hlt2 _) (by rw [stOf_size, List.length_append, List.length_append, be_length, bsOf_length]; omega)).mono ?_
            rw [List.append_assoc, ex_left _ _ z (be_length _ _), show (stOf (be (xs.size : Int) z ++ (bsOf xs ++ encs (l.drop (j + 1))))).size - z = (stOf (bsOf xs ++ encs (l.drop (j + 1)))).size from by rw [stOf_size, stOf_size, List.length_append, be_length]; omega, ex_left _ _ xs.size (bsOf_length xs), stOf_extract, List.take_left' (bsOf_length xs), List.drop_zero, stOf_bsOf]
            rintro e w7 ⟨rfl, hr7, hk7⟩
            have HR7 := Av.mk hr7
            have Z2 := Av.mk (X2.out.keep hk7 (fun h => X2.out.ne_ HR3.out (by decide) h))
            have HP7 := Av.mk (HP3.out.keep hk7 (HP3.out.far HR3.out (by decide)))
            have HB7 := Av.mk (below_keep HB5.out HB5.out.size hk7 (by rintro k rfl; assumption))
            clear hr7 hk7 f0 f1 f2 f3
            have g0 := Z2.out.cell 0
            have g1 := Z2.out.cell 1
            have g2 := Z2.out.cell 2
            have g3 := Z2.out.cell 3
            simp at g0 g1 g2 g3
            go_wp2_with fail
            go_roundw
            case rel => exact ⟨j + 1, by omega, by go_num, HR7.out, HP7.out, HB7.out⟩
            case measure => simp [intOf]; omega
        · obtain rfl : j = l.length := by omega
          have hnil : (stOf (encs (l.drop l.length))).size = 0 := by rw [List.drop_length]; rfl
          go_wp2_with fail
          refine (Left_calls gr _ wx HR2.out).mono ?_
          rw [hnil]
          rintro e w9 ⟨rfl, rfl⟩
          go_wp2_with fail
          go_ret
          exact ⟨rfl, HB4.out⟩

end Go.Proofs.Ytlajflcfpommoaa
