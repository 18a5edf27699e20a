/- DcacheDoes: the walk. Printed by mac.py from DdW.src. -/
import Derived.Test.YtiopmehaghcpfaaDdQ
import Derived.Test.YtiopmehaghcpfaaSpk15
import Derived.Deep.DeepCutAuto
import Derived.BigQuiet
namespace Go.Proofs.Ytiopmehaghcpfaa.Dd
open Go.Proofs.Ytiopmehaghcpfaa
open Go.RowKit Go.Maps
set_option linter.unusedSimpArgs false
set_option linter.unusedVariables false
attribute [local go_sem ↓] run_max_int run_min_int

def DArg (w : World) (A : Option Addr) (n : Nat) (F : Nat → AV) : Prop :=
  0 < n → ∃ b off, A = some ⟨b, off, none⟩ ∧ b < w.heap.size ∧ ∀ i, i < n → 0 ≤ (F i).d ∧ (F i).d ≤ 255 ∧ w.cell? ⟨b, off + i * 6, none⟩ = some (.bool (F i).kp) ∧ w.cell? ⟨b, off + i * 6 + 1, none⟩ = some (.bool (F i).th) ∧ w.cell? ⟨b, off + i * 6 + 2, none⟩ = some (.int .u8 (F i).d) ∧
    w.cell? ⟨b, off + i * 6 + 3, none⟩ = some (.string (F i).nm) ∧ w.cell? ⟨b, off + i * 6 + 4, none⟩ = some (.int .i64 (F i).ep) ∧ w.cell? ⟨b, off + i * 6 + 5, none⟩ = some (.int .i64 (F i).mark)
theorem made_nil (n : Nat) : (madeCells (Value.slice none 0 0).cells (n * 1)).toList = (List.range n).map (fun _ => Value.slice none 0 0) := by
  unfold madeCells
  simp [Value.cells]
  intro a _
  rw [Nat.mod_one]
  rfl
theorem info43 : ∃ i, Try.prog.info? 43 = some i ∧ i.zero = some (.slice none 0 0) ∧ i.size = 1 ∧ i.bytes = 24 := by
  have h : (Try.prog.info? 43).map (fun i => (i.zero, i.size, i.bytes)) = some (some (.slice none 0 0), 1, 24) := by kernel_rfl
  obtain ⟨i, hi, e⟩ := Option.map_eq_some_iff.1 h
  simp only [Prod.mk.injEq] at e
  exact ⟨i, hi, e.1, e.2.1, e.2.2⟩

set_option maxRecDepth 100000 in
set_option maxHeartbeats 8000000 in
theorem dd_walk (a b : Int) (A : Option Addr) (N c : Nat) (F : Nat → AV) (w : World) (hA : DArg w A N F) :
    Calls Try.prog 12 #[.agg #[.int .i64 a, .int .i64 b], .slice A N c] w (RetB (.bool true) w) := by
  obtain ⟨n, hn, hn1, hn2⟩ : ∃ n : Nat, mn (mx a 1) 256 = (n : Int) ∧ 1 ≤ n ∧ n ≤ 256 := by
    refine ⟨(mn (mx a 1) 256).toNat, ?_, ?_, ?_⟩ <;> (unfold mn mx; split <;> split <;> omega)
  obtain ⟨r, hr, hr1⟩ : ∃ r : Int, r = mx b 1 ∧ 1 ≤ r := ⟨_, rfl, by unfold mx; split <;> omega⟩
  obtain ⟨i0, hi0⟩ := info43
  have I := Av.mk hi0
  have HA := Av.mk hA
  have HN := Av.mk hn
  have HR := Av.mk hr
  clear hA hn hr hi0
  go_enter Try.func12, Try.ntmps12
  go_wp2_with fail
  have X0 := Av.mk (Blk.new w 88 #[.int .i64 a, .int .i64 b])
  have HB0 := Av.mk (below_alloc (Below.refl _ w) (.cells #[.int .i64 a, .int .i64 b] 88))
  generalize w.alloc (.cells #[.int .i64 a, .int .i64 b] 88) = w1 at *
  refine (E.speaks15 w1).mono ?_
  rintro e w2 ⟨rfl, hb2⟩
  have X2 := Av.mk (X0.out.keep (Keep.of_below (S := fun _ => False) hb2) (by simp))
  have HB2 := Av.mk (below_then HB0.out HB0.out.size hb2)
  have d0 := X2.out.cell 0
  have d1 := X2.out.cell 1
  have hlx := X2.out.lt
  simp at d0 d1
  clear hb2 X0 HB0
  by_cases hbig : 100 < N
  · go_wp2
    go_ret
    exact ⟨rfl, HB2.out⟩
  go_wp2_with fail
  go_quiet (fail)
  rw [HN.out, ← HR.out]
  have X3 := Av.mk (X2.out.drewN nq)
  have HB3 := Av.mk (below_drewN HB2.out nq)
  clear X2 HB2 d0 d1 hlx
  generalize w2.drewN nq = w3 at *
  have d0 := X3.out.cell 0
  have d1 := X3.out.cell 1
  have hlx := X3.out.lt
  simp at d0 d1
  go_wp2_with fail
  refine (E.new_D a b n HN.out hn1 hn2 w w3 HB3.out).mono ?_
  rintro e w4 ⟨g, vs, G, V, rfl, _, hd, hb⟩
  rw [← HR.out] at hd
  have HD4 := Av.mk hd
  generalize w3.heap.size = gs at *
  clear hd hb d0 d1 hlx X3 HB3
  have hmm := @run_makeMap Try.prog
  go_wp2_with (first | (at_make; refine wpList_make_full _ rfl _ _ 106 rfl w.heap.size 43 i0 (.slice none 0 0) 1 Try.underlying106 I.out.1 I.out.2.1 I.out.2.2.1 _ _ _ _ n rfl rfl rfl rfl (by rw [I.out.2.2.2]; omega) (by unfold maxLen; omega) HD4.out.below.size ?_; intro w5 hown5 hgrow5; rw [made_nil] at hown5; have HO5 := Av.mk hown5; have HD5 := Av.mk (HD4.out.grow (below_grown hgrow5)); clear hown5 hgrow5))
  have hbl0 := HD5.out.below.size
  have HS0 := Av.mk (show Dst w (w5.alloc (.map #[] 0)) n r g gs 0 0 vs G V (fun _ => []) w5.heap.size (.map []) from
    ⟨HD5.out.grow (below_alloc (Below.refl _ w5) (.map #[] 0)), World.ownsMap_made w5 _ _ _, HD5.out.below.size, by simp⟩)
  have HP0 := Av.mk (show PSt (w5.alloc (.map #[] 0)) w.heap.size w4.heap.size n n (fun _ => .slice none 0 0) (fun _ => []) from
    ⟨row_below HO5.out (below_alloc (Below.refl _ w5) (.map #[] 0)), fun j hj => ⟨rfl, .inl ⟨rfl, rfl⟩⟩⟩)
  clear HD4 HD5 HO5 hmm
  generalize w5.alloc (.map #[] 0) = w6 at *
  generalize w5.heap.size = bm at *
  generalize w4.heap.size = R at *
  go_loopw [10, 11, 46] (fun s10 s11 i wr => ∃ (q : Nat) (hits misses : Int) (V : Nat → Value) (Ls : Nat → E.PL) (PV : Nat → Value) (D : DataW AV), q ≤ N ∧ i = .int .i64 q ∧ s10 = .int .i64 hits ∧ s11 = .int .i64 misses ∧ Dst w wr n r g gs hits misses vs G V Ls bm D ∧ PSt wr w.heap.size R n n PV Ls ∧
    Av (DFit n r q Ls D ∧ 0 ≤ hits ∧ hits ≤ q ∧ 0 ≤ misses ∧ misses ≤ q ∧ Maps.size D ≤ q)) (fun _ _ i _ => N - (intOf i).toNat)
  case atStart => exact ⟨0, 0, 0, V, _, _, _, Nat.zero_le _, rfl, rfl, rfl, HS0.out, HP0.out, ⟨⟨by simp, fun _ _ => ⟨by simp; omega, by simp⟩, by simp⟩, by omega, by omega, by omega, by omega, by simp [Maps.size]⟩⟩
  case round =>
    obtain ⟨q, hits, misses, V, Ls, PV, D, hq, rfl, rfl, rfl, hs, hp, HI⟩ := hrel
    have HS := Av.mk hs
    have HP := Av.mk hp
    clear hs hp HS0 HP0
    by_cases hlt : q < N
    · obtain ⟨b2, off, rfl, hbl, hF⟩ := HA.out (by omega)
      obtain ⟨f0, f1, e0, e1, e2, e3, e4, e5⟩ := hF q hlt
      obtain ⟨⟨kp, th, d, nm, ep, mk⟩, ha⟩ : ∃ x, x = F q := ⟨_, rfl⟩
      rw [← ha] at f0 f1 e0 e1 e2 e3 e4 e5
      clear hF ha
      simp only at f0 f1 e0 e1 e2 e3 e4 e5
      rw [← HS.out.dc.below.cell (p := ⟨b2, _, none⟩) hbl] at e0 e1 e2 e3 e4 e5
      go_wp2_with fail
      have X1 := Av.mk (Blk.new wr 101 #[.bool kp, .bool th, .int .u8 d, .string nm, .int .i64 ep, .int .i64 mk])
      have HS1 := Av.mk (HS.out.below (below_alloc (Below.refl _ wr) (.cells #[.bool kp, .bool th, .int .u8 d, .string nm, .int .i64 ep, .int .i64 mk] 101)))
      have HP1 := Av.mk (HP.out.below (below_alloc (Below.refl _ wr) (.cells #[.bool kp, .bool th, .int .u8 d, .string nm, .int .i64 ep, .int .i64 mk] 101)))
      clear HS HP e0 e1 e2 e3 e4 e5
      generalize wr.alloc (.cells #[.bool kp, .bool th, .int .u8 d, .string nm, .int .i64 ep, .int .i64 mk] 101) = w7 at *
      generalize wr.heap.size = ga at *
      have x0 := X1.out.cell 0; have x1 := X1.out.cell 1; have x2 := X1.out.cell 2; have x3 := X1.out.cell 3; have x4 := X1.out.cell 4; have x5 := X1.out.cell 5
      have lx := X1.out.lt
      simp at x0 x1 x2 x3 x4 x5
      refine (E.right_calls nm w7).mono ?_
      rintro e _ ⟨b, rfl, hb, rfl⟩
      have HNB := Av.mk hb
      clear hb
      cases b
      case false =>
        go_wp2
        go_ret
        exact ⟨rfl, HS1.out.dc.below⟩
      have hnm := HNB.out rfl
      clear HNB
      go_wp2_with fail
      refine (E.dir_calls d f0 f1 w7).mono ?_
      rintro e _ ⟨rfl, rfl⟩
      have hds := E.dirOf_size d
      generalize E.dirOf d = dir at *
      obtain ⟨k, hk⟩ : ∃ k, chd dir nm = k := ⟨_, rfl⟩
      have hks : k.size ≤ 3000 := by rw [← hk]; exact E.chd_size2 _ _ hds hnm
      go_wp2_with fail
      refine (child2_calls dir nm w7 (by omega) (by omega)).mono ?_
      rw [hk]
      rintro e _ ⟨rfl, rfl⟩
      have HKK := Av.mk hk
      clear hk
      go_wp2_with fail
      refine (Fnv.ref_calls k w7 (by omega)).mono ?_
      rintro e _ ⟨rfl, rfl⟩
      have hsm := Fnv.sum_lt (Fnv.bsOf k)
      have e2 := shd_wrap n k (by omega) hn2
      have e3 : IntKind.u64.wrap (n : Int) = (n : Int) := by rw [IntKind.wrap_u64]; omega
      have HSD := Av.mk (E.shard_D HS1.out.dc (by omega) hn2 dir nm k (by omega) (by omega) HKK.out hks)
      obtain ⟨i, hi⟩ : ∃ i, shd n k = i := ⟨_, rfl⟩
      have hil : i < n := by rw [← hi]; exact shd_lt (by omega) k
      rw [hi] at e2 HSD
      have HIK := Av.mk hi
      generalize Fnv.sum (Fnv.bsOf k) = sm at *
      clear hi
      go_wp2_with fail
      try rw [e2]
      refine HSD.out.mono ?_
      rintro e _ ⟨rfl, nd, rfl⟩
      have HS2 := Av.mk (HS1.out.drewN nd)
      have HP2 := Av.mk (HP1.out.drewN nd)
      have X2 := Av.mk (X1.out.drewN nd)
      clear HS1 HP1 X1 HSD x0 x1 x2 x3 x4 x5 lx
      generalize w7.drewN nd = w8 at *
      have hlen := (HI.out.1.len i hil).2
      have hlr := (HI.out.1.len i hil).1
      have hpr := HP2.out.prs i hil
      obtain ⟨Ap, cp, hpv⟩ := own_slice hpr
      have HPR := Av.mk (show Pairs w8 w.heap.size (.slice Ap (zl (Ls i)).length cp) (zl (Ls i)) from by rw [← hpv]; exact hpr)
      have cR := HP2.out.cell i hil
      rw [hpv] at cR
      have lR := HP2.out.lt
      obtain ⟨wv, hwv⟩ : ∃ wv, fnd (keyAt k (zl (Ls i))) (zl (Ls i)).length = wv := ⟨_, rfl⟩
      have hf := Find13 w.heap.size _ (zl (Ls i)) k w8 HPR.out (by rw [zl_length]; omega) _ rfl
      rw [hwv] at hf
      have HF := Av.mk hf
      have HWV : Av ((k ∈ (Ls i).map (·.1) → 0 ≤ wv) ∧ (k ∉ (Ls i).map (·.1) → wv = -1)) := by
        refine ⟨fun hk => ?_, fun hk => ?_⟩
        · rw [← hwv, zl_keyAt, zl_length, fnd_hit (by rw [keyAt_lt]; exact hk)]; omega
        · rw [← hwv, zl_keyAt, zl_length, fnd_not (by rw [keyAt_lt]; exact hk)]
      have HZL := Av.mk (zl_length (Ls i))
      clear hf hwv hpr hpv
      have x0 := X2.out.cell 0; have x1 := X2.out.cell 1; have x2 := X2.out.cell 2; have x3 := X2.out.cell 3; have x4 := X2.out.cell 4; have x5 := X2.out.cell 5
      have lx := X2.out.lt
      simp at x0 x1 x2 x3 x4 x5
      go_wp2_with fail
      refine HF.out.mono ?_
      rintro e _ ⟨rfl, rfl⟩
      clear HF
      go_upto_if 81 with (fail)
      go_cut [17] (fun s17 wx => s17 = .int .i64 wv ∧ ∃ PV', Dst w wx n r g gs hits misses vs G V Ls bm D ∧ PSt wx w.heap.size R n n PV' (up Ls i (touch k (Ls i))) ∧ Blk wx ga 101 #[.bool kp, .bool th, .int .u8 d, .string nm, .int .i64 ep, .int .i64 mk])
      case first =>
        by_cases hk : k ∈ (Ls i).map (·.1)
        · have hw0 := HWV.out.1 hk
          obtain ⟨p, hp, hpk⟩ := List.mem_map.1 hk
          obtain ⟨pk, x⟩ := p
          obtain rfl : pk = k := hpk
          have ht := touch_hit (HI.out.1.nd i hil) hp
          have HT := Av.mk ht
          have HU := Av.mk (Use13 w.heap.size _ (zl (Ls i)) (pk, 0) w8 HPR.out (by rw [zl_length]; omega))
          clear hp hk ht
          go_wp2_with fail
          refine HU.out.mono ?_
          rintro e w9 ⟨v', rfl, hp9, hb9⟩
          have hp9' : Pairs w9 w8.heap.size v' (zl (touch pk (Ls i))) := by rw [HT.out, ← zl_use pk x (Ls i)]; exact hp9
          obtain ⟨A9, c9, rfl⟩ := own_slice hp9'
          have HP9 := Av.mk (HP2.out.below hb9)
          have HS9 := Av.mk (HS2.out.below hb9)
          have X9 := Av.mk (X2.out.keep (Keep.of_below (S := fun _ => False) hb9) (by simp))
          have HQ9 := Av.mk (row_mono hp9' HS2.out.dc.below.size)
          have cR9 := HP9.out.cell i hil
          have fR9 := HP9.out.frozen i
          have lR9 := HP9.out.lt
          clear hp9 hp9' hb9 HU
          have HSET := Av.mk (HP9.out.set i hil _ (touch pk (Ls i)) HQ9.out rfl)
          go_wp2_with fail
          go_meet
          exact ⟨rfl, _, HS9.out.byRow HP9.out.row HSET.out.2, HSET.out.1, X9.out.keep HSET.out.2 (fun e => row_ne HP9.out.row X9.out (by decide) (by rw [e]; rfl))⟩
        · have hw1 := HWV.out.2 hk
          subst hw1
          go_wp2_with fail
          go_meet
          exact ⟨rfl, PV, HS2.out, by rw [touch_not hk, Ep.up_self]; exact HP2.out, X2.out⟩
      case rest =>
        obtain ⟨rfl, PV', hs, hp, hx⟩ := hcut
        obtain ⟨w9, rfl⟩ : ∃ w9, w9 = wc := ⟨_, rfl⟩
        have HS := Av.mk hs
        have HP := Av.mk hp
        have X := Av.mk hx
        clear hs hp hx HS2 HP2 X2 HPR cR lR x0 x1 x2 x3 x4 x5 lx HZL
        have x0 := X.out.cell 0; have x1 := X.out.cell 1; have x2 := X.out.cell 2; have x3 := X.out.cell 3; have x4 := X.out.cell 4; have x5 := X.out.cell 5
        have lx := X.out.lt
        simp at x0 x1 x2 x3 x4 x5
        have hkey := Av.mk (L.key9 (s := k) (by omega))
        have hz : (zeroValue 101).run Try.prog w9 = .ok (encA zA) w9 := by kernel_rfl
        have HZ := Av.mk hz
        obtain ⟨⟨okp, oth, od, onm, oep, omk⟩, hold⟩ : ∃ o, atK D (keyS k) zA = o := ⟨_, rfl⟩
        have HOD := Av.mk hold
        clear hz hold
        go_upto_region 24 with (first | (at_lookup; refine wpList_look1 decA encA decA_inv rfl _ _ 113 rfl 9 101 L.law9 Try.underlying113 zA HZ.out (decA_enc zA) bm _ D rfl HS.out.map _ _ rfl hkey.out ?_; rw [HOD.out]; simp only [encA]))
        have X10 := Av.mk (X.out.alloc (.cells #[.bool okp, .bool oth, .int .u8 od, .string onm, .int .i64 oep, .int .i64 omk] 101))
        have Y10 := Av.mk (Blk.new w9 101 #[.bool okp, .bool oth, .int .u8 od, .string onm, .int .i64 oep, .int .i64 omk])
        have HS10 := Av.mk (HS.out.below (below_alloc (Below.refl _ w9) (.cells #[.bool okp, .bool oth, .int .u8 od, .string onm, .int .i64 oep, .int .i64 omk] 101)))
        have HP10 := Av.mk (HP.out.below (below_alloc (Below.refl _ w9) (.cells #[.bool okp, .bool oth, .int .u8 od, .string onm, .int .i64 oep, .int .i64 omk] 101)))
        clear HS HP X x0 x1 x2 x3 x4 x5 lx HZ
        generalize w9.alloc (.cells #[.bool okp, .bool oth, .int .u8 od, .string onm, .int .i64 oep, .int .i64 omk] 101) = w10 at *
        generalize w9.heap.size = go at *
        have x0 := X10.out.cell 0; have x1 := X10.out.cell 1; have x2 := X10.out.cell 2; have x3 := X10.out.cell 3; have x4 := X10.out.cell 4; have x5 := X10.out.cell 5; have y0 := Y10.out.cell 0; have y1 := Y10.out.cell 1; have y2 := Y10.out.cell 2; have y3 := Y10.out.cell 3; have y4 := Y10.out.cell 4; have y5 := Y10.out.cell 5
        have lx := X10.out.lt
        have ly := Y10.out.lt
        simp at x0 x1 x2 x3 x4 x5 y0 y1 y2 y3 y4 y5
        have HENT : Av (∀ x, (k, x) ∈ Ls i → x.ep = oep ∧ x.there = oth ∧ x.kind = omk ∧ x.tg = onm) := ⟨fun x hx => by have h' := (HI.out.1.ent i hil _ hx).2; simp only at h'; rw [HOD.out] at h'; exact h'⟩
        go_upto_if 96 with (fail)
        go_cut [10, 11] (fun s10 s11 wx => ∃ (hits' misses' : Int) (V' : Nat → Value) (Ls' : Nat → E.PL) (PV'' : Nat → Value) (D' : DataW AV), s10 = .int .i64 hits' ∧ s11 = .int .i64 misses' ∧ Dst w wx n r g gs hits' misses' vs G V' Ls' bm D' ∧ PSt wx w.heap.size R n n PV'' Ls' ∧ Av (DFit n r (q + 1) Ls' D' ∧ 0 ≤ hits' ∧ hits' ≤ (q + 1 : Nat) ∧ 0 ≤ misses' ∧ misses' ≤ (q + 1 : Nat) ∧ Maps.size D' ≤ q + 1))
        case first =>
          cases kp
          case true =>
            as_aux_lemma =>
            go_upto_region 25 with (fail)
            have HK : Av (∀ W rr b, Dst w W n r g gs hits misses vs G V Ls bm D → W.ownsRow b 70 2 (.slice (some ⟨rr, 0, none⟩) 1 1) 1 [.int .i64 mk, .int .i64 0] → Calls Try.prog 45 #[.pointer (some ⟨g, 0, none⟩), .string dir, .string nm, .agg #[.int .i64 ep, .bool th, .int .i64 mk, .int .i64 0, .int .i64 0, .slice (some ⟨rr, 0, none⟩) 1 1, .string nm]] W (DKeep w n r g gs hits misses vs G V Ls bm D i k th ep mk nm W)) :=
              ⟨fun W rr b hW hrow => dst_keep hW HI.out.1 (by omega) hr1 (by omega) hn2 dir nm k (by omega) (by omega) HKK.out hks HIK.out th ep mk rr b hrow⟩
            go_cut [19] (fun s19 wx => ∃ (bb : Bool) (V' : Nat → Value) (Ls' : Nat → E.PL), s19 = .bool bb ∧ Dst w wx n r g gs hits misses vs G V' Ls' bm D ∧ PSt wx w.heap.size R n n PV' (up Ls i (touch k (Ls i))) ∧ Blk wx ga 101 #[.bool true, .bool th, .int .u8 d, .string nm, .int .i64 ep, .int .i64 mk] ∧ Blk wx go 101 #[.bool okp, .bool oth, .int .u8 od, .string onm, .int .i64 oep, .int .i64 omk] ∧
              Av ((bb = true → (∀ x, (k, x) ∈ Ls i → x.ep ≤ ep) ∧ ∃ A c, Ls' = up Ls i (putL r k ⟨ep, th, mk, 0, 0, A, 1, c, nm⟩ (touch k (Ls i)))) ∧ (bb = false → (∃ x, (k, x) ∈ Ls i ∧ ep < x.ep) ∧ Ls' = up Ls i (touch k (Ls i)))))
            case first =>
              go_region_with (first | (go_at_call 53; refine (E.entry_calls true th d nm ep mk w10.drew).mono ?_; rintro e w11 ⟨rr, rfl, hr11, hb11⟩; have HS11 := Av.mk (HS10.out.drew.below hb11); have HB11 := Av.mk hb11; have HR11 := Av.mk hr11; have X11 := Av.mk (X10.out.drew.keep (Keep.of_below (S := fun _ => False) hb11) (by simp)); have t3 := X11.out.cell 3; have lt := X11.out.lt; simp at t3; clear hr11 hb11) | (go_at_call 45; refine (HK.out w11 rr _ HS11.out HR11.out).mono ?_; rintro e w12 ⟨bb, V12, L12, rfl, hs12, k12, hc12⟩; have HS12 := Av.mk hs12; have K12 := Av.mk k12; have HC12 := Av.mk hc12; clear hs12 k12 hc12))
              all_goals
                have Y11 := Y10.out.drew.keep (Keep.of_below (S := fun _ => False) HB11.out) (by simp)
                have HP12 := Av.mk (PSt.byE (PSt.below (HP10.out.drewN 1) HB11.out) HS11.out hil K12.out)
                have X12 := Av.mk (X11.out.keep K12.out (Ep.Dc.apartBlk HS11.out.dc hil X11.out (by decide) (by decide) (by decide)))
                have Y12 := Av.mk (Y11.keep K12.out (Ep.Dc.apartBlk HS11.out.dc hil Y11 (by decide) (by decide) (by decide)))
                clear Y11
                go_wp2_with fail
                go_meet
                exact ⟨bb, V12, L12, rfl, HS12.out, HP12.out, X12.out, Y12.out, HC12⟩
            case rest =>
              obtain ⟨bb, V12, L12, rfl, hs, hp, hx, hy, HC12⟩ := hcut
              obtain ⟨w12, rfl⟩ : ∃ w12, w12 = wc := ⟨_, rfl⟩
              have HS12 := Av.mk hs
              have HP12 := Av.mk hp
              have X12 := Av.mk hx
              have Y12 := Av.mk hy
              clear hs hp hx hy HS10 HP10 X10 Y10 HK x0 x1 x2 x3 x4 x5 y0 y1 y2 y3 y4 y5 lx ly
              have p0 := X12.out.cell 0; have p1 := X12.out.cell 1; have p2 := X12.out.cell 2; have p3 := X12.out.cell 3; have p4 := X12.out.cell 4; have p5 := X12.out.cell 5; have z0 := Y12.out.cell 0; have z1 := Y12.out.cell 1; have z2 := Y12.out.cell 2; have z3 := Y12.out.cell 3; have z4 := Y12.out.cell 4; have z5 := Y12.out.cell 5
              have lp := X12.out.lt
              have lz := Y12.out.lt
              simp at p0 p1 p2 p3 p4 p5 z0 z1 z2 z3 z4 z5
              cases bb
              case false =>
                obtain ⟨⟨x, hx, hlt2⟩, rfl⟩ := HC12.out.2 rfl
                have hoe : ep < oep := by rw [← (HENT.out x hx).1]; exact hlt2
                have hnle : ¬ oep ≤ ep := by omega
                have hw0 : 0 ≤ wv := HWV.out.1 (List.mem_map_of_mem (f := (·.1)) hx)
                have hwn : ¬ wv < 0 := by omega
                clear hx
                go_wp2_with fail
                go_meet
                exact ⟨hits, misses, V12, _, PV', D, rfl, rfl, HS12.out, HP12.out, ⟨(HI.out.1.touch hil k).mono (by omega), HI.out.2.1, by have := HI.out.2.2.1; omega, HI.out.2.2.2.1, by have := HI.out.2.2.2.2.1; omega, by have := HI.out.2.2.2.2.2; omega⟩⟩
              case true =>
                obtain ⟨hall, Ae, ce, rfl⟩ := HC12.out.1 rfl
                have hor : (0 ≤ wv ∧ oep ≤ ep) ∨ wv = -1 := by
                  by_cases hkk : k ∈ (Ls i).map (·.1)
                  · obtain ⟨p, hp, hpk⟩ := List.mem_map.1 hkk
                    obtain ⟨pk, x⟩ := p
                    obtain rfl : pk = k := hpk
                    exact .inl ⟨HWV.out.1 hkk, by rw [← (HENT.out x hp).1]; exact hall x hp⟩
                  · exact .inr (HWV.out.2 hkk)
                clear hall
                have hpr := HP12.out.prs i hil
                rw [up_same] at hpr
                obtain ⟨Aq, cq, hpv⟩ := own_slice hpr
                have hpr' : Pairs w12 w.heap.size (.slice Aq (zl (touch k (Ls i))).length cq) (zl (touch k (Ls i))) := by rw [← hpv]; exact hpr
                have cR := HP12.out.cell i hil
                rw [hpv] at cR
                have lR := HP12.out.lt
                have htl := touch_length (k := k) (HI.out.1.nd i hil)
                have HPUT := Av.mk (put13_is w.heap.size _ r (touch k (Ls i)) k ⟨ep, th, mk, 0, 0, Ae, 1, ce, nm⟩ w12 hpr' (by omega) (by omega) hr1)
                clear hpr hpr' hpv
                go_upto_region 26 with (fail)
                go_cut [114] (fun s wx => s = .bool false ∧ w12 = wx)
                case first =>
                  rcases hor with ⟨hw0, hole⟩ | hw1
                  · have hwn : ¬ wv < 0 := by omega
                    go_wp2_with fail
                    go_meet
                    exact ⟨rfl, rfl⟩
                  · subst hw1
                    go_wp2_with fail
                    go_meet
                    exact ⟨rfl, rfl⟩
                case rest =>
                  obtain ⟨rfl, rfl⟩ := hcut
                  go_wp2_with fail
                  refine HPUT.out.mono ?_
                  rintro e w13 ⟨Ar, cr, gone, is, rfl, hp13, hb13⟩
                  have HS13 := Av.mk (HS12.out.below hb13)
                  have HP13 := Av.mk (HP12.out.below hb13)
                  have X13 := Av.mk (X12.out.keep (Keep.of_below (S := fun _ => False) hb13) (by simp))
                  have cR13 := HP13.out.cell i hil
                  have fR13 := HP13.out.frozen i
                  have lR13 := HP13.out.lt
                  have HSET := Av.mk (HP13.out.set i hil _ _ (row_mono hp13 HS12.out.dc.below.size) rfl)
                  have HS14 := Av.mk (HS13.out.byRow HP13.out.row HSET.out.2)
                  have X14 := Av.mk (X13.out.keep HSET.out.2 (fun e => row_ne HP13.out.row X13.out (by decide) (by rw [e]; rfl)))
                  have m0 := X13.out.cell 0; have m1 := X13.out.cell 1; have m2 := X13.out.cell 2; have m3 := X13.out.cell 3; have m4 := X13.out.cell 4; have m5 := X13.out.cell 5
                  have lm := X13.out.lt
                  have hgR : ga ≠ R := fun e => row_ne HP13.out.row X13.out (by decide) (by rw [e]; rfl)
                  have hgR2 : R ≠ ga := hgR.symm
                  simp at m0 m1 m2 m3 m4 m5
                  clear hp13 hb13 HPUT
                  have hdec : decA (.agg #[.bool true, .bool th, .int .u8 d, .string nm, .int .i64 ep, .int .i64 mk]) = some ⟨true, th, d, nm, ep, mk⟩ := decA_enc ⟨true, th, d, nm, ep, mk⟩
                  have HDEC := Av.mk hdec
                  clear hdec
                  go_wp2_with (first | (at_mapUpdate; refine wpList_store decA rfl _ _ _ 113 rfl 9 101 L.law9 Try.underlying113 bm _ D rfl HS14.out.map (by have := HI.out.2.2.2.2.2; unfold maxLen; omega) _ _ _ rfl rfl hkey.out ⟨true, th, d, nm, ep, mk⟩ HDEC.out ?_; intro w15 hown15 hturn15; have HO15 := Av.mk hown15; have HT15 := Av.mk hturn15; clear hown15 hturn15))
                  have HS15 := Av.mk (HS14.out.byMap HO15.out HT15.out)
                  have HP15 := Av.mk (PSt.byMap HSET.out.1 HS14.out HT15.out)
                  have htd := HS14.out.map.tidy L.law9
                  have hfit := (HI.out.1.touch hil k).put htd.isMap (by omega) hil k HIK.out ⟨true, th, d, nm, ep, mk⟩ ⟨ep, th, mk, 0, 0, Ae, 1, ce, nm⟩ ⟨rfl, rfl, rfl, rfl⟩
                  rw [up_same, E.up_up] at hfit
                  rw [E.up_up] at HP15
                  go_meet
                  exact ⟨hits, misses, V12, _, _, _, rfl, rfl, HS15.out, HP15.out, ⟨hfit, HI.out.2.1, by have := HI.out.2.2.1; omega, HI.out.2.2.2.1, by have := HI.out.2.2.2.2.1; omega, by have := HI.out.2.2.2.2.2; rw [size_put htd]; split <;> omega⟩⟩
          case false =>
            by_cases hh : ∃ x, (k, x) ∈ Ls i ∧ x.ep = ep
            · as_aux_lemma =>
              obtain ⟨x, hx, hxe⟩ := hh
              have hL := dst_hit HS10.out HI.out.1 (by omega) (by omega) hn2 HI.out.2.1 (by have := HI.out.2.2.1; omega) dir nm k (by omega) (by omega) HKK.out hks HIK.out x hx
              obtain ⟨h1', h2', h3', h4'⟩ := HENT.out x hx
              have hw0 : 0 ≤ wv := HWV.out.1 (List.mem_map_of_mem (f := (·.1)) hx)
              have hwn : ¬ wv < 0 := by omega
              rw [hxe] at hL h1'
              subst h1'
              have HL := Av.mk hL
              obtain ⟨xep, xth, xk, xl, xi, xA, xn, xc, xt⟩ := x
              simp only at h2' h3' h4' hxe
              subst h2' h3' h4' hxe
              clear hx hL
              have hh0 := HI.out.2.1
              have hh1 : hits ≤ 1000 := by have := HI.out.2.2.1; omega
              go_wp2_with fail
              refine HL.out.mono ?_
              rintro e w11 ⟨Ae, ce, rfl, hr11, hs11, k11⟩
              have hba := below_alloc (Below.refl _ w11) (.cells #[.int .i64 xep, .bool xth, .int .i64 xk, .int .i64 0, .int .i64 0, .slice Ae 1 ce, .string xt] 76)
              have HS12 := Av.mk (hs11.below hba)
              have HP12 := Av.mk (PSt.below (PSt.byE HP10.out HS10.out hil k11) hba)
              have Y12 := Av.mk ((Y10.out.keep k11 (Ep.Dc.apartBlk HS10.out.dc hil Y10.out (by decide) (by decide) (by decide))).alloc (.cells #[.int .i64 xep, .bool xth, .int .i64 xk, .int .i64 0, .int .i64 0, .slice Ae 1 ce, .string xt] 76))
              have X12 := Av.mk ((X10.out.keep k11 (Ep.Dc.apartBlk HS10.out.dc hil X10.out (by decide) (by decide) (by decide))).alloc (.cells #[.int .i64 xep, .bool xth, .int .i64 xk, .int .i64 0, .int .i64 0, .slice Ae 1 ce, .string xt] 76))
              have Z12 := Av.mk (Blk.new w11 76 #[.int .i64 xep, .bool xth, .int .i64 xk, .int .i64 0, .int .i64 0, .slice Ae 1 ce, .string xt])
              have HR12 := Av.mk (row_below hr11 hba)
              clear hs11 hr11 k11 hba HL HS10 HP10 X10 Y10 x0 x1 x2 x3 x4 x5 y0 y1 y2 y3 y4 y5 lx ly
              go_upto_region 32 with (fail)
              generalize w11.alloc (.cells #[.int .i64 xep, .bool xth, .int .i64 xk, .int .i64 0, .int .i64 0, .slice Ae 1 ce, .string xt] 76) = w12 at *
              generalize w11.heap.size = g12 at *
              have p0 := X12.out.cell 0; have p1 := X12.out.cell 1; have p2 := X12.out.cell 2; have p3 := X12.out.cell 3; have p4 := X12.out.cell 4; have p5 := X12.out.cell 5; have y0 := Y12.out.cell 0; have y1 := Y12.out.cell 1; have y2 := Y12.out.cell 2; have y3 := Y12.out.cell 3; have y4 := Y12.out.cell 4; have y5 := Y12.out.cell 5; have z0 := Z12.out.cell 0; have z1 := Z12.out.cell 1; have z2 := Z12.out.cell 2; have z3 := Z12.out.cell 3; have z4 := Z12.out.cell 4; have z5 := Z12.out.cell 5; have z6 := Z12.out.cell 6
              have lp := X12.out.lt
              have ly := Y12.out.lt
              have lz := Z12.out.lt
              simp at p0 p1 p2 p3 p4 p5 y0 y1 y2 y3 y4 y5 z0 z1 z2 z3 z4 z5 z6
              go_upto_region 36 with (fail)
              go_cut [162] (fun s wx => s = .bool false ∧ Dst w wx n r g gs (hits + 1) misses vs G V (up Ls i (touch k (Ls i))) bm D ∧ PSt wx w.heap.size R n n PV' (up Ls i (touch k (Ls i))))
              case first =>
                go_region_with (first | (go_at_call 53; refine (E.entry_calls okp xth od xt xep xk w12.drew).mono ?_; rintro e w13 ⟨ra, rfl, hra, hba⟩; have HRA := Av.mk hra; have HB13 := Av.mk hba; have HR13 := Av.mk (row_below HR12.out.drew hba); have Z13 := Av.mk (Z12.out.drew.keep (Keep.of_below (S := fun _ => False) hba) (by simp)); have t0 := Z13.out.cell 0; have t1 := Z13.out.cell 1; have t2 := Z13.out.cell 2; have t3 := Z13.out.cell 3; have t4 := Z13.out.cell 4; have t5 := Z13.out.cell 5; have t6 := Z13.out.cell 6; have lt := Z13.out.lt; simp at t0 t1 t2 t3 t4 t5 t6; clear hra hba) | (go_at_call 54; refine (E.same_calls xep xth xk 0 0 xt Ae (some ⟨ra, 0, none⟩) ce 1 [(xk, 0)] _ _ w13 HR13.out HRA.out (by simp)).mono ?_; rintro e w14 ⟨rfl, hbb⟩; have HB14 := Av.mk hbb; clear hbb))
                all_goals
                  go_wp2_with fail
                  go_meet
                  exact ⟨rfl, (HS12.out.drew.below HB13.out).below HB14.out, PSt.below (PSt.below (HP12.out.drewN 1) HB13.out) HB14.out⟩
              case rest =>
                obtain ⟨rfl, hs, hp⟩ := hcut
                have HSx := Av.mk hs
                have HPx := Av.mk hp
                clear hs hp
                go_wp2_with fail
                go_meet
                exact ⟨hits + 1, misses, V, _, PV', D, rfl, rfl, HSx.out, HPx.out, ⟨(HI.out.1.touch hil k).mono (by omega), by omega, by have := HI.out.2.2.1; omega, HI.out.2.2.2.1, by have := HI.out.2.2.2.2.1; omega, by have := HI.out.2.2.2.2.2; omega⟩⟩
            · as_aux_lemma =>
              have hall : ∀ x, (k, x) ∈ Ls i → x.ep ≠ ep := fun x hx e => hh ⟨x, hx, e⟩
              have hor : (0 ≤ wv ∧ ¬ oep = ep) ∨ wv = -1 := by
                by_cases hkk : k ∈ (Ls i).map (·.1)
                · obtain ⟨p, hp, hpk⟩ := List.mem_map.1 hkk
                  obtain ⟨pk, x⟩ := p
                  obtain rfl : pk = k := hpk
                  exact .inl ⟨HWV.out.1 hkk, by rw [← (HENT.out x hp).1]; exact hall x hp⟩
                · exact .inr (HWV.out.2 hkk)
              have HL := Av.mk (dst_miss HS10.out HI.out.1 (by omega) (by omega) hn2 HI.out.2.2.2.1 (by have := HI.out.2.2.2.2.1; omega) dir nm k (by omega) (by omega) HKK.out hks HIK.out ep hall)
              clear hall hh
              have hh0 := HI.out.2.2.2.1
              have hh1 : misses ≤ 1000 := by have := HI.out.2.2.2.2.1; omega
              go_wp2_with fail
              refine HL.out.mono ?_
              rintro e w11 ⟨rfl, hs11, k11⟩
              have hba := below_alloc (Below.refl _ w11) (.cells #[.int .i64 0, .bool false, .int .i64 0, .int .i64 0, .int .i64 0, .slice none 0 0, .string (⟨#[]⟩ : ByteArray)] 76)
              have HS12 := Av.mk (hs11.below hba)
              have HP12 := Av.mk (PSt.below (PSt.byE HP10.out HS10.out hil k11) hba)
              have Y12 := Av.mk ((Y10.out.keep k11 (Ep.Dc.apartBlk HS10.out.dc hil Y10.out (by decide) (by decide) (by decide))).alloc (.cells #[.int .i64 0, .bool false, .int .i64 0, .int .i64 0, .int .i64 0, .slice none 0 0, .string (⟨#[]⟩ : ByteArray)] 76))
              have X12 := Av.mk ((X10.out.keep k11 (Ep.Dc.apartBlk HS10.out.dc hil X10.out (by decide) (by decide) (by decide))).alloc (.cells #[.int .i64 0, .bool false, .int .i64 0, .int .i64 0, .int .i64 0, .slice none 0 0, .string (⟨#[]⟩ : ByteArray)] 76))
              have Z12 := Av.mk (Blk.new w11 76 #[.int .i64 0, .bool false, .int .i64 0, .int .i64 0, .int .i64 0, .slice none 0 0, .string (⟨#[]⟩ : ByteArray)])
              clear hs11 k11 hba HL HS10 HP10 X10 Y10 x0 x1 x2 x3 x4 x5 y0 y1 y2 y3 y4 y5 lx ly
              go_upto_region 32 with (fail)
              generalize w11.alloc (.cells #[.int .i64 0, .bool false, .int .i64 0, .int .i64 0, .int .i64 0, .slice none 0 0, .string (⟨#[]⟩ : ByteArray)] 76) = w12 at *
              generalize w11.heap.size = g12 at *
              have p0 := X12.out.cell 0; have p1 := X12.out.cell 1; have p2 := X12.out.cell 2; have p3 := X12.out.cell 3; have p4 := X12.out.cell 4; have p5 := X12.out.cell 5; have y0 := Y12.out.cell 0; have y1 := Y12.out.cell 1; have y2 := Y12.out.cell 2; have y3 := Y12.out.cell 3; have y4 := Y12.out.cell 4; have y5 := Y12.out.cell 5; have z0 := Z12.out.cell 0; have z1 := Z12.out.cell 1; have z2 := Z12.out.cell 2; have z3 := Z12.out.cell 3; have z4 := Z12.out.cell 4; have z5 := Z12.out.cell 5; have z6 := Z12.out.cell 6
              have lp := X12.out.lt
              have ly := Y12.out.lt
              have lz := Z12.out.lt
              simp at p0 p1 p2 p3 p4 p5 y0 y1 y2 y3 y4 y5 z0 z1 z2 z3 z4 z5 z6
              go_cut [154] (fun s wx => s = .bool false ∧ w12 = wx)
              case first =>
                rcases hor with ⟨hw0, hole⟩ | hw1
                · have hwn : ¬ wv < 0 := by omega
                  have hbf : (oep == ep) = false := by simp [hole]
                  go_wp2_with fail
                  go_meet
                  first | exact ⟨rfl, rfl⟩ | exact ⟨by rw [hbf], rfl⟩
                · subst hw1
                  go_wp2_with fail
                  go_meet
                  exact ⟨rfl, rfl⟩
              case rest =>
                obtain ⟨rfl, rfl⟩ := hcut
                have HSM := Av.mk (E.same_calls 0 false 0 0 0 ⟨#[]⟩ none none 0 0 [] 0 0 w12 ⟨rfl, .inl ⟨rfl, rfl⟩⟩ ⟨rfl, .inl ⟨rfl, rfl⟩⟩ (by decide))
                go_wp2_with fail
                refine HSM.out.mono ?_
                rintro e w13 ⟨rfl, hb13⟩
                have HS13 := Av.mk (HS12.out.below hb13)
                have HP13 := Av.mk (PSt.below HP12.out hb13)
                clear hb13
                go_wp2_with fail
                go_meet
                exact ⟨hits, misses + 1, V, _, PV', D, rfl, rfl, HS13.out, HP13.out, ⟨(HI.out.1.touch hil k).mono (by omega), HI.out.2.1, by have := HI.out.2.2.1; omega, by omega, by have := HI.out.2.2.2.2.1; omega, by have := HI.out.2.2.2.2.2; omega⟩⟩
        case rest =>
          as_aux_lemma =>
          obtain ⟨hits', misses', V', Ls', PV'', D', rfl, rfl, hs, hp, HI'⟩ := hcut
          obtain ⟨w13, rfl⟩ : ∃ w13, w13 = wc := ⟨_, rfl⟩
          have HS13 := Av.mk hs
          have HP13 := Av.mk hp
          have hpr := hp.prs i hil
          obtain ⟨Aq, cq, hpv⟩ := own_slice hpr
          have cR := hp.cell i hil
          rw [hpv, zl_length] at cR
          have lR := hp.lt
          have hml : ¬ r < ((most (fun j => (Ls' j).length) n : Nat) : Int) := by
            have := most_le (fun j => (Ls' j).length) r.toNat n (fun j hj => by have := (HI'.out.1.len j hj).1; omega)
            omega
          clear hs hp hpr hpv HS10 HP10 X10 Y10 x0 x1 x2 x3 x4 x5 y0 y1 y2 y3 y4 y5 lx ly
          go_wp2_with fail
          go_region_with (first | (go_at_call 63; refine (E.len_D HS13.out.drew.dc i hil).mono ?_; rintro e _ ⟨rfl, rfl⟩) | (go_at_call 64; refine (E.most_D HS13.out.drew.dc hn2).mono ?_; rintro e _ ⟨rfl, rfl⟩))
          all_goals
            have HS14 := Av.mk HS13.out.drew
            have HP14 := Av.mk (HP13.out.drewN 1)
            go_wp2_with fail
            refine ⟨⟨q + 1, hits', misses', V', Ls', PV'', D', by omega, by go_num, rfl, rfl, HS14.out, HP14.out, HI'⟩, ?_⟩
            simp [intOf]
            omega
    · obtain rfl : q = N := by omega
      have HC := Av.mk (E.counts_D HS.out.dc)
      have HMN := Av.mk (fun m => E.many_D (HS.out.dc.drewN m))
      have HBE := Av.mk HS.out.dc.below
      go_wp2_with fail
      refine HC.out.mono ?_
      rintro e _ ⟨rfl, nd, rfl⟩
      have HM2 := Av.mk (HMN.out nd)
      clear HMN
      go_wp2_with fail
      refine HM2.out.mono ?_
      rintro e _ ⟨rfl, rfl⟩
      go_wp2
      go_ret
      exact ⟨rfl, below_drewN HBE.out nd⟩
end Go.Proofs.Ytiopmehaghcpfaa.Dd
