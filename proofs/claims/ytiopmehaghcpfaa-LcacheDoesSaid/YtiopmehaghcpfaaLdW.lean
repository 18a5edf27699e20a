/- LcacheDoes: the walk. Printed by mac.py from LdW.src. -/
import Derived.Test.YtiopmehaghcpfaaLdU
import Derived.Test.YtiopmehaghcpfaaDirP
import Derived.Deep.DeepCutAuto
import Derived.Deep.CutBlock
import Derived.BigQuiet
namespace Go.Proofs.Ytiopmehaghcpfaa.Ld
open Go.Proofs.Ytiopmehaghcpfaa
open Go.RowKit Go.Maps
set_option linter.unusedSimpArgs false
set_option linter.unusedVariables false
attribute [local go_sem ↓] run_max_int run_min_int

def LArg (w : World) (A : Option Addr) (n : Nat) (F : Nat → AV) : Prop :=
  0 < n → ∃ b off, A = some ⟨b, off, none⟩ ∧ b < w.heap.size ∧ ∀ i, i < n → (0 ≤ (F i).kd ∧ (F i).kd ≤ 255) ∧ (0 ≤ (F i).d ∧ (F i).d ≤ 255) ∧ (0 ≤ (F i).mn ∧ (F i).mn ≤ 255) ∧ w.cell? ⟨b, off + i * 4, none⟩ = some (.int .u8 (F i).kd) ∧ w.cell? ⟨b, off + i * 4 + 1, none⟩ = some (.int .u8 (F i).d) ∧
    w.cell? ⟨b, off + i * 4 + 2, none⟩ = some (.int .i64 (F i).ep) ∧ w.cell? ⟨b, off + i * 4 + 3, none⟩ = some (.int .u8 (F i).mn)
theorem made_nil (n : Nat) : (madeCells (Value.slice none 0 0).cells (n * 1)).toList = (List.range n).map (fun _ => Value.slice none 0 0) := by
  unfold madeCells
  simp [Value.cells]
  intro a _
  rw [Nat.mod_one]
  rfl
theorem info43 : ∃ i, Try.prog.info? 43 = some i ∧ i.zero = some (.slice none 0 0) ∧ i.size = 1 ∧ i.bytes = 24 := by
  have h : (Try.prog.info? 43).map (fun i => (i.zero, i.size, i.bytes)) = some (some (.slice none 0 0), 1, 24) := by kernel_rfl
  obtain ⟨i, hi, e⟩ := Option.map_eq_some_iff.1 h
  simp only [Prod.mk.injEq] at e
  exact ⟨i, hi, e.1, e.2.1, e.2.2⟩

set_option maxRecDepth 100000 in
set_option maxHeartbeats 8000000 in
theorem ld_walk (a b : Int) (A : Option Addr) (N c : Nat) (F : Nat → AV) (w : World) (hA : LArg w A N F) :
    Calls Try.prog 11 #[.agg #[.int .i64 a, .int .i64 b], .slice A N c] w (RetB (.bool true) w) := by
  obtain ⟨n, hn, hn1, hn2⟩ : ∃ n : Nat, mn (mx a 1) 256 = (n : Int) ∧ 1 ≤ n ∧ n ≤ 256 := by
    refine ⟨(mn (mx a 1) 256).toNat, ?_, ?_, ?_⟩ <;> (unfold mn mx; split <;> split <;> omega)
  obtain ⟨r, hr, hr1⟩ : ∃ r : Int, r = mx b 1 ∧ 1 ≤ r := ⟨_, rfl, by unfold mx; split <;> omega⟩
  obtain ⟨i0, hi0⟩ := info43
  have I := Av.mk hi0
  have HA := Av.mk hA
  have HN := Av.mk hn
  have HR := Av.mk hr
  clear hA hn hr hi0
  go_enter Try.func11, Try.ntmps11
  go_wp2_with fail
  have X0 := Av.mk (Blk.new w 88 #[.int .i64 a, .int .i64 b])
  have HB0 := Av.mk (below_alloc (Below.refl _ w) (.cells #[.int .i64 a, .int .i64 b] 88))
  generalize w.alloc (.cells #[.int .i64 a, .int .i64 b] 88) = w1 at *
  refine (L.speaks16 w1).mono ?_
  rintro e w2 ⟨rfl, hb2⟩
  have X2 := Av.mk (X0.out.keep (Keep.of_below (S := fun _ => False) hb2) (by simp))
  have HB2 := Av.mk (below_then HB0.out HB0.out.size hb2)
  have d0 := X2.out.cell 0
  have d1 := X2.out.cell 1
  have hlx := X2.out.lt
  simp at d0 d1
  clear hb2 X0 HB0
  by_cases hbig : 100 < N
  · go_wp2
    go_ret
    exact ⟨rfl, HB2.out⟩
  go_wp2_with fail
  go_quiet (fail)
  rw [HN.out, ← HR.out]
  have X3 := Av.mk (X2.out.drewN nq)
  have HB3 := Av.mk (below_drewN HB2.out nq)
  clear X2 HB2 d0 d1 hlx
  generalize w2.drewN nq = w3 at *
  have d0 := X3.out.cell 0
  have d1 := X3.out.cell 1
  have hlx := X3.out.lt
  simp at d0 d1
  go_wp2_with fail
  refine (L.new_L a b n HN.out hn1 hn2 w w3 HB3.out).mono ?_
  rintro e w4 ⟨g, vs, G, V, rfl, _, hd, hb⟩
  rw [← HR.out] at hd
  have HD4 := Av.mk hd
  generalize w3.heap.size = gs at *
  clear hd hb d0 d1 hlx X3 HB3
  have hmm := @run_makeMap Try.prog
  go_wp2_with (first | (at_make; refine wpList_make_full _ rfl _ _ 106 rfl w.heap.size 43 i0 (.slice none 0 0) 1 Try.underlying106 I.out.1 I.out.2.1 I.out.2.2.1 _ _ _ _ n rfl rfl rfl rfl (by rw [I.out.2.2.2]; omega) (by unfold maxLen; omega) HD4.out.below.size ?_; intro w5 hown5 hgrow5; rw [made_nil] at hown5; have HO5 := Av.mk hown5; have HD5 := Av.mk (HD4.out.grow (below_grown hgrow5)); clear hown5 hgrow5))
  have hbl0 := HD5.out.below.size
  have HS0 := Av.mk (show Lst w (w5.alloc (.map #[] 0)) n r g gs 0 vs G V (fun _ => []) w5.heap.size (.map []) (fun _ => 0) from
    ⟨HD5.out.grow (below_alloc (Below.refl _ w5) (.map #[] 0)), World.ownsMap_made w5 _ _ _, HD5.out.below.size, by simp⟩)
  have HP0 := Av.mk (show PSt (w5.alloc (.map #[] 0)) w.heap.size w4.heap.size n n (fun _ => .slice none 0 0) (fun _ => []) from
    ⟨row_below HO5.out (below_alloc (Below.refl _ w5) (.map #[] 0)), fun j hj => ⟨rfl, .inl ⟨rfl, rfl⟩⟩⟩)
  clear HD4 HD5 HO5 hmm
  generalize w5.alloc (.map #[] 0) = w6 at *
  generalize w5.heap.size = bm at *
  generalize w4.heap.size = R at *
  go_loopw [10, 47] (fun s10 i wr => ∃ (q : Nat) (made : Int) (V : Nat → Value) (Ls : Nat → L.PL) (PV : Nat → Value) (D : DataW AV) (M : ByteArray → Int), q ≤ N ∧ i = .int .i64 q ∧ s10 = .int .i64 made ∧ Lst w wr n r g gs made vs G V Ls bm D M ∧ PSt wr w.heap.size R n n PV Ls ∧
    Av (LFit n r q Ls D M ∧ 0 ≤ made ∧ made ≤ q ∧ Maps.size D ≤ q)) (fun _ i _ => N - (intOf i).toNat)
  case atStart => exact ⟨0, 0, V, _, _, _, _, Nat.zero_le _, rfl, rfl, HS0.out, HP0.out, ⟨⟨by simp, fun _ _ => ⟨by simp; omega, by simp⟩, by simp⟩, by omega, by omega, by simp [Maps.size]⟩⟩
  case round =>
    obtain ⟨q, made, V, Ls, PV, D, M, hq, rfl, rfl, hs, hp, HI⟩ := hrel
    have HS := Av.mk hs
    have HP := Av.mk hp
    clear hs hp HS0 HP0
    by_cases hlt : q < N
    · obtain ⟨b2, off, rfl, hbl, hF⟩ := HA.out (by omega)
      obtain ⟨⟨k0, k1⟩, ⟨f0, f1⟩, ⟨m0, m1⟩, e0, e1, e2, e3⟩ := hF q hlt
      obtain ⟨⟨kd, d, ep, mn⟩, ha⟩ : ∃ x, x = F q := ⟨_, rfl⟩
      rw [← ha] at k0 k1 f0 f1 m0 m1 e0 e1 e2 e3
      clear hF ha
      simp only at k0 k1 f0 f1 m0 m1 e0 e1 e2 e3
      rw [← HS.out.lc.below.cell (p := ⟨b2, _, none⟩) hbl] at e0 e1 e2 e3
      go_wp2_with fail
      have X1 := Av.mk (Blk.new wr 109 #[.int .u8 kd, .int .u8 d, .int .i64 ep, .int .u8 mn])
      have HS1 := Av.mk (HS.out.below (below_alloc (Below.refl _ wr) (.cells #[.int .u8 kd, .int .u8 d, .int .i64 ep, .int .u8 mn] 109)))
      have HP1 := Av.mk (HP.out.below (below_alloc (Below.refl _ wr) (.cells #[.int .u8 kd, .int .u8 d, .int .i64 ep, .int .u8 mn] 109)))
      clear HS HP e0 e1 e2 e3
      generalize wr.alloc (.cells #[.int .u8 kd, .int .u8 d, .int .i64 ep, .int .u8 mn] 109) = w7 at *
      generalize wr.heap.size = ga at *
      have x0 := X1.out.cell 0; have x1 := X1.out.cell 1; have x2 := X1.out.cell 2; have x3 := X1.out.cell 3
      have lx := X1.out.lt
      simp at x0 x1 x2 x3
      refine (E.dir_calls d f0 f1 w7).mono ?_
      rintro e _ ⟨rfl, rfl⟩
      have hds := E.dirOf_size d
      generalize E.dirOf d = k at *
      have hks : k.size ≤ 3000 := by omega
      go_wp2_with fail
      refine (Fnv.ref_calls k w7 (by omega)).mono ?_
      rintro e _ ⟨rfl, rfl⟩
      have hsm := Fnv.sum_lt (Fnv.bsOf k)
      have e2 := shd_wrap n k (by omega) hn2
      have e3 : IntKind.u64.wrap (n : Int) = (n : Int) := by rw [IntKind.wrap_u64]; omega
      obtain ⟨i, hi⟩ : ∃ i, shd n k = i := ⟨_, rfl⟩
      have hil : i < n := by rw [← hi]; exact shd_lt (by omega) k
      rw [hi] at e2
      have HIK := Av.mk hi
      have HOF : Av (∀ (W : World) (made : Int) (V : Nat → Value) (Ls : Nat → L.PL), L.Lc w W g gs n r made vs G V Ls → Calls Try.prog 57 #[.pointer (some ⟨g, 0, none⟩), .string k] W (fun e w' => e = .returned (.int .i64 (i : Int)) ∧ ∃ m, w' = W.drewN m)) :=
        ⟨fun W made V Ls h => by have h' := L.of_L h (by omega) hn2 k hks; rw [hi] at h'; exact h'.mono (fun _ _ h => h)⟩
      generalize Fnv.sum (Fnv.bsOf k) = sm at *
      clear hi
      have hlen := (HI.out.1.len i hil).2
      have hlr := (HI.out.1.len i hil).1
      have hpr := HP1.out.prs i hil
      obtain ⟨Ap, cp, hpv⟩ := own_slice hpr
      have HPR := Av.mk (show Pairs w7 w.heap.size (.slice Ap (zl (Ls i)).length cp) (zl (Ls i)) from by rw [← hpv]; exact hpr)
      have cR := HP1.out.cell i hil
      rw [hpv] at cR
      have lR := HP1.out.lt
      obtain ⟨wv, hwv⟩ : ∃ wv, fnd (keyAt k (zl (Ls i))) (zl (Ls i)).length = wv := ⟨_, rfl⟩
      have hf := Find13 w.heap.size _ (zl (Ls i)) k w7 HPR.out (by rw [zl_length]; omega) _ rfl
      rw [hwv] at hf
      have HF := Av.mk hf
      have HWV : Av ((k ∈ (Ls i).map (·.1) → 0 ≤ wv) ∧ (k ∉ (Ls i).map (·.1) → wv = -1)) := by
        refine ⟨fun hk => ?_, fun hk => ?_⟩
        · rw [← hwv, zl_keyAt, zl_length, fnd_hit (by rw [keyAt_lt]; exact hk)]; omega
        · rw [← hwv, zl_keyAt, zl_length, fnd_not (by rw [keyAt_lt]; exact hk)]
      have HZL := Av.mk (zl_length (Ls i))
      clear hf hwv hpr hpv
      go_wp2_with fail
      try rw [e2]
      refine HF.out.mono ?_
      rintro e _ ⟨rfl, rfl⟩
      clear HF
      go_upto_if 67 with (fail)
      go_cut [15] (fun s15 wx => s15 = .int .i64 wv ∧ ∃ PV', Lst w wx n r g gs made vs G V Ls bm D M ∧ PSt wx w.heap.size R n n PV' (up Ls i (touch k (Ls i))) ∧ Blk wx ga 109 #[.int .u8 kd, .int .u8 d, .int .i64 ep, .int .u8 mn])
      case first =>
        by_cases hk : k ∈ (Ls i).map (·.1)
        · have hw0 := HWV.out.1 hk
          obtain ⟨p, hp, hpk⟩ := List.mem_map.1 hk
          obtain ⟨pk, x⟩ := p
          obtain rfl : pk = k := hpk
          have ht := touch_hit (HI.out.1.nd i hil) hp
          have HT := Av.mk ht
          have HU := Av.mk (Use13 w.heap.size _ (zl (Ls i)) (pk, 0) w7 HPR.out (by rw [zl_length]; omega))
          clear hp hk ht
          go_wp2_with fail
          refine HU.out.mono ?_
          rintro e w9 ⟨v', rfl, hp9, hb9⟩
          have hp9' : Pairs w9 w7.heap.size v' (zl (touch pk (Ls i))) := by rw [HT.out, ← zl_use pk x (Ls i)]; exact hp9
          obtain ⟨A9, c9, rfl⟩ := own_slice hp9'
          have HP9 := Av.mk (HP1.out.below hb9)
          have HS9 := Av.mk (HS1.out.below hb9)
          have X9 := Av.mk (X1.out.keep (Keep.of_below (S := fun _ => False) hb9) (by simp))
          have HQ9 := Av.mk (row_mono hp9' HS1.out.lc.below.size)
          have cR9 := HP9.out.cell i hil
          have fR9 := HP9.out.frozen i
          have lR9 := HP9.out.lt
          clear hp9 hp9' hb9 HU
          have HSET := Av.mk (HP9.out.set i hil _ (touch pk (Ls i)) HQ9.out rfl)
          go_wp2_with fail
          go_meet
          exact ⟨rfl, _, HS9.out.byRow HP9.out.row HSET.out.2, HSET.out.1, X9.out.keep HSET.out.2 (fun e => row_ne HP9.out.row X9.out (by decide) (by rw [e]; rfl))⟩
        · have hw1 := HWV.out.2 hk
          subst hw1
          go_wp2_with fail
          go_meet
          exact ⟨rfl, PV, HS1.out, by rw [touch_not hk, Ep.up_self]; exact HP1.out, X1.out⟩
      case rest =>
        obtain ⟨rfl, PV', hs, hp, hx⟩ := hcut
        obtain ⟨w9, rfl⟩ : ∃ w9, w9 = wc := ⟨_, rfl⟩
        have HS := Av.mk hs
        have HP := Av.mk hp
        have X := Av.mk hx
        clear hs hp hx HS1 HP1 X1 HPR cR lR x0 x1 x2 x3 lx HZL
        have x0 := X.out.cell 0; have x1 := X.out.cell 1; have x2 := X.out.cell 2; have x3 := X.out.cell 3
        have lx := X.out.lt
        simp at x0 x1 x2 x3
        have hkey := Av.mk (L.key9 (s := k) (by omega))
        have hz : (zeroValue 109).run Try.prog w9 = .ok (encA zA) w9 := by kernel_rfl
        have HZ := Av.mk hz
        obtain ⟨⟨okd, od, oep, omn⟩, hold⟩ : ∃ o, atK D (keyS k) zA = o := ⟨_, rfl⟩
        have HOD := Av.mk hold
        clear hz hold
        go_upto_region 19 with (first | (at_lookup; refine wpList_look1 decA encA decA_inv rfl _ _ 107 rfl 9 109 L.law9 Try.underlying107 zA HZ.out (decA_enc zA) bm _ D rfl HS.out.map _ _ rfl hkey.out ?_; rw [HOD.out]; simp only [encA]))
        have X10 := Av.mk (X.out.alloc (.cells #[.int .u8 okd, .int .u8 od, .int .i64 oep, .int .u8 omn] 109))
        have Y10 := Av.mk (Blk.new w9 109 #[.int .u8 okd, .int .u8 od, .int .i64 oep, .int .u8 omn])
        have HS10 := Av.mk (HS.out.below (below_alloc (Below.refl _ w9) (.cells #[.int .u8 okd, .int .u8 od, .int .i64 oep, .int .u8 omn] 109)))
        have HP10 := Av.mk (HP.out.below (below_alloc (Below.refl _ w9) (.cells #[.int .u8 okd, .int .u8 od, .int .i64 oep, .int .u8 omn] 109)))
        clear HS HP X x0 x1 x2 x3 lx HZ
        generalize w9.alloc (.cells #[.int .u8 okd, .int .u8 od, .int .i64 oep, .int .u8 omn] 109) = w10 at *
        generalize w9.heap.size = go at *
        have x0 := X10.out.cell 0; have x1 := X10.out.cell 1; have x2 := X10.out.cell 2; have x3 := X10.out.cell 3; have y0 := Y10.out.cell 0; have y1 := Y10.out.cell 1; have y2 := Y10.out.cell 2; have y3 := Y10.out.cell 3
        have lx := X10.out.lt
        have ly := Y10.out.lt
        simp at x0 x1 x2 x3 y0 y1 y2 y3
        have HENT : Av (∀ x, (k, x) ∈ Ls i → x.ep = oep ∧ M k = omn) := ⟨fun x hx => by have h' := (HI.out.1.ent i hil _ hx).2; simp only at h'; rw [HOD.out] at h'; exact h'⟩
        obtain ⟨hb, hhb⟩ : ∃ hb : Bool, hb = decide (0 ≤ wv ∧ oep = ep) := ⟨_, rfl⟩
        obtain ⟨kb, hkb⟩ : ∃ kb : Bool, kb = decide (wv < 0 ∨ oep ≤ ep) := ⟨_, rfl⟩
        have HHB : Av ((hb = true → ∃ x, (k, x) ∈ Ls i ∧ x.ep = ep) ∧ (hb = false → ∀ x, (k, x) ∈ Ls i → x.ep ≠ ep) ∧ (kb = true → ∀ x, (k, x) ∈ Ls i → x.ep ≤ ep) ∧ (kb = false → ∃ x, (k, x) ∈ Ls i ∧ ep < x.ep)) := by
          have hin : ∀ x, (k, x) ∈ Ls i → 0 ≤ wv := fun x hx => HWV.out.1 (List.mem_map_of_mem (f := (·.1)) hx)
          have hout : 0 ≤ wv → ∃ x, (k, x) ∈ Ls i := fun h => by
            by_cases hk : k ∈ (Ls i).map (·.1)
            · obtain ⟨p, hp, hpk⟩ := List.mem_map.1 hk
              obtain ⟨pk, x⟩ := p
              obtain rfl : pk = k := hpk
              exact ⟨x, hp⟩
            · have := HWV.out.2 hk; omega
          refine ⟨fun h => ?_, fun h x hx => ?_, fun h x hx => ?_, fun h => ?_⟩
          · rw [hhb, decide_eq_true_iff] at h
            obtain ⟨x, hx⟩ := hout h.1
            exact ⟨x, hx, by rw [(HENT.out x hx).1]; exact h.2⟩
          · rw [hhb, decide_eq_false_iff_not] at h
            rw [(HENT.out x hx).1]
            exact fun e => h ⟨hin x hx, e⟩
          · rw [hkb, decide_eq_true_iff] at h
            have := hin x hx
            rw [(HENT.out x hx).1]
            omega
          · rw [hkb, decide_eq_false_iff_not] at h
            obtain ⟨x, hx⟩ := hout (by omega)
            exact ⟨x, hx, by rw [(HENT.out x hx).1]; omega⟩
        have HB1 := Av.mk hhb
        have HK1 := Av.mk hkb
        clear hhb hkb
        go_cut [17] (fun s17 wx => s17 = .bool hb ∧ w10 = wx)
        case first =>
          by_cases hw0 : 0 ≤ wv
          · have hbq : decide (oep = ep) = hb := by rw [HB1.out]; simp [hw0]
            go_wp2_with fail
            go_meet
            exact ⟨by first | rfl | (rw [← hbq]; first | done | rfl | simp), rfl⟩
          · have hbq : hb = false := by rw [HB1.out]; simp [hw0]
            clear HB1 HHB
            subst hbq
            go_wp2_with fail
            go_meet
            exact ⟨rfl, rfl⟩
        case rest =>
        obtain ⟨rfl, rfl⟩ := hcut
        go_upto_region 20 with (fail)
        go_cut [18] (fun s18 wx => s18 = .bool kb ∧ w10 = wx)
        case first =>
          by_cases hw0 : wv < 0
          · have hbq : kb = true := by rw [HK1.out]; simp [hw0]
            clear HK1 HHB
            subst hbq
            go_wp2_with fail
            go_meet
            exact ⟨rfl, rfl⟩
          · have hbq : decide (oep ≤ ep) = kb := by rw [HK1.out]; simp [hw0]
            go_wp2_with fail
            go_meet
            exact ⟨by first | rfl | (rw [← hbq]; first | done | rfl | simp), rfl⟩
        case rest =>
        obtain ⟨rfl, rfl⟩ := hcut
        clear HB1 HK1
        go_upto_block 2 with (fail)
        go_cut [10, 18, 19] (fun s10 s18 s19 wx => ∃ (made' : Int) (kb' : Bool) (A0 : Option Addr) (m0 c0 : Nat) (e0 : Int) (V' : Nat → Value) (Ls' : Nat → L.PL) (M' : ByteArray → Int), s10 = .int .i64 made' ∧ s18 = .bool kb' ∧ s19 = .slice A0 m0 c0 ∧ Lst w wx n r g gs made' vs G V' Ls' bm D M' ∧ PSt wx w.heap.size R n n PV' (up Ls i (touch k (Ls i))) ∧ Blk wx ga 109 #[.int .u8 kd, .int .u8 d, .int .i64 ep, .int .u8 mn] ∧
          wx.ownsRow w.heap.size 83 2 (.slice A0 m0 c0) m0 (L.entC e0 m0) ∧ (∀ j, j < n → ∀ p ∈ Ls' j, ∀ b, (Value.slice p.2.A p.2.n p.2.c).ownBlock = some b → (Value.slice A0 m0 c0).ownBlock ≠ some b) ∧
          Av (m0 ≤ 4 ∧ 0 ≤ made' ∧ made' ≤ (q + 1 : Nat) ∧ (kb' = true → M' = upM M k mn ∧ ∃ A m c, Ls' = up Ls i (putL r k ⟨ep, A, m, c⟩ (touch k (Ls i)))) ∧ (kb' = false → M' = M ∧ Ls' = up Ls i (touch k (Ls i)))))
        case first =>
          have hmd0 := HI.out.2.1
          have hmd1 : made ≤ 1000 := by have := HI.out.2.2.1; omega
          have hk3 : kd % 3 = 0 ∨ kd % 3 = 1 ∨ kd % 3 = 2 := by omega
          have HROWS : Av (∀ j, j < n → ∀ p ∈ Ls j, ∀ b, (Value.slice p.2.A p.2.n p.2.c).ownBlock = some b → b < w10.heap.size) := ⟨fun j hj p hp b hb => row_lt (HS10.out.lrow j hj p hp).2.2.2 b hb.symm⟩
          have HTM : Av (∀ j, j < n → ∀ p ∈ up Ls i (touch k (Ls i)) j, p ∈ Ls j) := ⟨fun j hj p hp => Ep.up_mem (touch_mem (HI.out.1.nd i hil)) j p hp⟩
          obtain ⟨m, hm⟩ : ∃ m : Nat, mn % 5 = (m : Int) := ⟨(mn % 5).toNat, by omega⟩
          have hm4 : m ≤ 4 := by omega
          rcases hk3 with h3 | h3 | h3
          · have t0 : (kd % 3 == 0) = true := by rw [h3]; rfl
            clear h3
            cases hb
            case true =>
              --@A
              as_aux_lemma =>
              obtain ⟨x, hx, hxe⟩ := HHB.out.1 rfl
              have hL := lst_hit HS10.out HI.out.1 (by omega) (by omega) hn2 k hks HIK.out x hx
              have hom := (HENT.out x hx).2
              obtain ⟨o0, o1, o2, o3⟩ := HS10.out.lrow i hil _ hx
              clear o3
              simp only at o0 o1 o2
              rw [hom] at hL o0 o1 o2
              rw [hxe] at hL
              have hx4 : x.n ≤ 4 := by omega
              generalize x.n = m0 at *
              have HL := Av.mk hL
              clear hx hL hxe x
              go_wp2_with fail
              refine HL.out.mono ?_
              rintro e w11 ⟨A, c, rfl, hr11, hs11, k11⟩
              have X11 := Av.mk (X10.out.keep k11 (Ep.Lc.apartBlk HS10.out.lc hil X10.out (by decide) (by decide) (by decide)))
              have Y11 := Av.mk (Y10.out.keep k11 (Ep.Lc.apartBlk HS10.out.lc hil Y10.out (by decide) (by decide) (by decide)))
              have HP11 := Av.mk (PSt.byL HP10.out HS10.out.lc hil k11)
              have HS11 := Av.mk hs11
              have HR11 := Av.mk hr11
              clear hs11 hr11 k11 HL x0 x1 x2 x3 y0 y1 y2 y3 lx ly
              have x0 := X11.out.cell 0; have x1 := X11.out.cell 1; have x2 := X11.out.cell 2; have x3 := X11.out.cell 3; have y0 := Y11.out.cell 0; have y1 := Y11.out.cell 1; have y2 := Y11.out.cell 2; have y3 := Y11.out.cell 3
              have lx := X11.out.lt
              have ly := Y11.out.lt
              simp at x0 x1 x2 x3 y0 y1 y2 y3
              have HE := Av.mk (L.entries_calls omn o0 o1 m0 o2 w11)
              go_wp2_with fail
              refine HE.out.mono ?_
              rintro e w12 ⟨A2, c2, rfl, hr12, hb12⟩
              have HSAME := Av.mk (L.same55_calls omn m0 A A2 c c2 w10.heap.size w11.heap.size w12 (row_below HR11.out hb12) hr12 (by omega))
              have HB12 := Av.mk hb12
              clear hr12 hb12 HE
              go_wp2_with fail
              refine HSAME.out.mono ?_
              rintro e w13 ⟨rfl, hb13⟩
              have HB13 := Av.mk (below_then HB12.out HB12.out.size hb13)
              clear hb13 HSAME HB12
              go_wp2_with fail
              go_meet
              exact ⟨made, false, A, m0, c, omn, V, _, M, rfl, rfl, rfl, HS11.out.below HB13.out, PSt.below HP11.out HB13.out, X11.out.keep (Keep.of_below (S := fun _ => False) HB13.out) (by simp), row_mono (row_below HR11.out HB13.out) HS10.out.lc.below.size,
                fun j hj p hp b hb1 hb2 => by have e1 := HROWS.out j hj p (HTM.out j hj p hp) b hb1; have e2 := row_base HR11.out b hb2.symm; omega,
                ⟨by omega, by omega, by have := HI.out.2.2.1; omega, (fun h => by cases h), fun _ => ⟨rfl, rfl⟩⟩⟩
              --@/A
            case false =>
              --@B
              as_aux_lemma =>
              have HL := Av.mk (lst_miss HS10.out HI.out.1 (by omega) (by omega) hn2 k hks HIK.out ep (HHB.out.2.1 rfl))
              go_wp2_with fail
              refine HL.out.mono ?_
              rintro e w11 ⟨rfl, hs11, k11⟩
              have X11 := Av.mk (X10.out.keep k11 (Ep.Lc.apartBlk HS10.out.lc hil X10.out (by decide) (by decide) (by decide)))
              have HP11 := Av.mk (PSt.byL HP10.out HS10.out.lc hil k11)
              have HS11 := Av.mk hs11
              clear hs11 k11 HL
              go_wp2_with fail
              go_meet
              exact ⟨made, false, none, 0, 0, 0, V, _, M, rfl, rfl, rfl, HS11.out, HP11.out, X11.out, ⟨rfl, .inl ⟨rfl, rfl⟩⟩, (fun j hj p hp b hb1 hb2 => by cases hb2),
                ⟨by omega, by omega, by have := HI.out.2.2.1; omega, (fun h => by cases h), fun _ => ⟨rfl, rfl⟩⟩⟩
              --@/B
          · have t0 : (kd % 3 == 0) = false := by rw [h3]; rfl
            have t1 : (kd % 3 == 1) = true := by rw [h3]; rfl
            clear h3
            --@C
            as_aux_lemma =>
            have HE := Av.mk (L.entries_calls mn m0 m1 m hm w10)
            go_wp2_with fail
            refine HE.out.mono ?_
            rintro e w11 ⟨A, c, rfl, hr11, hb11⟩
            have HR11 := Av.mk hr11
            have HS11 := Av.mk (HS10.out.below hb11)
            have HP11 := Av.mk (PSt.below HP10.out hb11)
            have X11 := Av.mk (X10.out.keep (Keep.of_below (S := fun _ => False) hb11) (by simp))
            have hz11 := hb11.size
            clear hr11 hb11 HE x0 x1 x2 x3 y0 y1 y2 y3 lx ly
            have x0 := X11.out.cell 0; have x1 := X11.out.cell 1; have x2 := X11.out.cell 2; have x3 := X11.out.cell 3
            have lx := X11.out.lt
            simp at x0 x1 x2 x3
            have HL := Av.mk (lst_keep HS11.out HI.out.1 (by omega) hr1 (by omega) hn2 k hks HIK.out ep mn m0 m1 m hm _ A c HR11.out)
            go_wp2_with fail
            refine HL.out.mono ?_
            rintro e w12 ⟨bb, V12, L12, rfl, hs12, k12, hy, hno⟩
            have hbk : bb = kb := by
              cases bb <;> cases kb
              · rfl
              · obtain ⟨x, hx, hlt⟩ := (hno rfl).1
                have := HHB.out.2.2.1 rfl x hx
                omega
              · obtain ⟨x, hx, hlt⟩ := HHB.out.2.2.2 rfl
                have := (hy rfl).1 x hx
                omega
              · rfl
            subst hbk
            have X12 := Av.mk (X11.out.keep k12 (Ep.Lc.apartBlk HS11.out.lc hil X11.out (by decide) (by decide) (by decide)))
            have HP12 := Av.mk (PSt.byL HP11.out HS11.out.lc hil k12)
            have HR12 := Av.mk (row_keep HR11.out k12 (Ep.Lc.apartRow HS11.out.lc hil HR11.out (by decide) (by decide) (by decide)))
            have hlt11 := row_lt HR11.out
            have hge11 := row_base HR11.out
            have HS12 := Av.mk hs12
            have HY := Av.mk hy
            have HNO := Av.mk hno
            have HAP : Av (∀ j, j < n → ∀ p ∈ L12 j, ∀ b, (Value.slice p.2.A p.2.n p.2.c).ownBlock = some b → (Value.slice A m c).ownBlock ≠ some b) := ⟨fun j hj p hp b hb1 hb2 => by
              have e1 := hlt11 b hb2.symm
              have e2 := hge11 b hb2.symm
              cases bb
              · rw [(hno rfl).2] at hp
                have := HROWS.out j hj p (HTM.out j hj p hp) b hb1
                omega
              · obtain ⟨_, A', c', hL', hA'⟩ := hy rfl
                rw [hL'] at hp
                by_cases e : j = i
                · subst e
                  rw [up_same] at hp
                  rcases putL_mem hp with rfl | ⟨hp, hne⟩
                  · have := hA' b hb1; omega
                  · have := HROWS.out j hj p (touch_mem (HI.out.1.nd j hj) p hp) b hb1; omega
                · rw [up_other _ _ _ e] at hp
                  have := HROWS.out j hj p hp b hb1
                  omega⟩
            clear hs12 k12 hy hno hlt11 hge11 HL
            cases bb
            case false =>
              go_wp2_with fail
              go_meet
              exact ⟨made, false, A, m, c, mn, V12, L12, M, rfl, rfl, rfl, HS12.out, HP12.out, X12.out, row_mono HR12.out HS10.out.lc.below.size, HAP.out, ⟨hm4, by omega, by have := HI.out.2.2.1; omega, (fun h => by cases h), fun _ => ⟨rfl, (HNO.out (by simp)).2⟩⟩⟩
            case true =>
              go_wp2_with fail
              go_meet
              exact ⟨made, true, A, m, c, mn, V12, L12, _, rfl, rfl, rfl, HS12.out, HP12.out, X12.out, row_mono HR12.out HS10.out.lc.below.size, HAP.out, ⟨hm4, by omega, by have := HI.out.2.2.1; omega, (fun _ => ⟨rfl, by obtain ⟨_, A', c', h', _⟩ := HY.out (by simp); exact ⟨A', m, c', h'⟩⟩), (fun h => by cases h)⟩⟩
            --@/C
          · have t0 : (kd % 3 == 0) = false := by rw [h3]; rfl
            have t1 : (kd % 3 == 1) = false := by rw [h3]; rfl
            clear h3
            cases hb
            case true =>
              --@D
              as_aux_lemma =>
              obtain ⟨x, hx, hxe⟩ := HHB.out.1 rfl
              have hL := lst_take_hit HS10.out HI.out.1 (by omega) (by omega) hn2 k hks HIK.out x hx (.func (.func 56) #[] #[.pointer (some ⟨ga, 0, none⟩)])
              have hom := (HENT.out x hx).2
              obtain ⟨o0, o1, o2, o3⟩ := HS10.out.lrow i hil _ hx
              clear o3
              simp only at o0 o1 o2
              rw [hom] at hL o0 o1 o2
              rw [hxe] at hL
              have hx4 : x.n ≤ 4 := by omega
              generalize x.n = m0 at *
              have HL := Av.mk hL
              clear hx hL hxe x
              go_wp2_with fail
              refine HL.out.mono ?_
              rintro e w11 ⟨A, c, rfl, hr11, hs11, k11⟩
              have X11 := Av.mk (X10.out.keep k11 (Ep.Lc.apartBlk HS10.out.lc hil X10.out (by decide) (by decide) (by decide)))
              have Y11 := Av.mk (Y10.out.keep k11 (Ep.Lc.apartBlk HS10.out.lc hil Y10.out (by decide) (by decide) (by decide)))
              have HP11 := Av.mk (PSt.byL HP10.out HS10.out.lc hil k11)
              have HS11 := Av.mk hs11
              have HR11 := Av.mk hr11
              clear hs11 hr11 k11 HL x0 x1 x2 x3 y0 y1 y2 y3 lx ly
              have x0 := X11.out.cell 0; have x1 := X11.out.cell 1; have x2 := X11.out.cell 2; have x3 := X11.out.cell 3; have y0 := Y11.out.cell 0; have y1 := Y11.out.cell 1; have y2 := Y11.out.cell 2; have y3 := Y11.out.cell 3
              have lx := X11.out.lt
              have ly := Y11.out.lt
              simp at x0 x1 x2 x3 y0 y1 y2 y3
              have HE := Av.mk (L.entries_calls omn o0 o1 m0 o2 w11)
              go_wp2_with fail
              refine HE.out.mono ?_
              rintro e w12 ⟨A2, c2, rfl, hr12, hb12⟩
              have HSAME := Av.mk (L.same55_calls omn m0 A A2 c c2 w10.heap.size w11.heap.size w12 (row_below HR11.out hb12) hr12 (by omega))
              have HB12 := Av.mk hb12
              clear hr12 hb12 HE
              go_wp2_with fail
              refine HSAME.out.mono ?_
              rintro e w13 ⟨rfl, hb13⟩
              have HB13 := Av.mk (below_then HB12.out HB12.out.size hb13)
              clear hb13 HSAME HB12
              go_wp2_with fail
              go_meet
              exact ⟨made, false, A, m0, c, omn, V, _, M, rfl, rfl, rfl, HS11.out.below HB13.out, PSt.below HP11.out HB13.out, X11.out.keep (Keep.of_below (S := fun _ => False) HB13.out) (by simp), row_mono (row_below HR11.out HB13.out) HS10.out.lc.below.size,
                fun j hj p hp b hb1 hb2 => by have e1 := HROWS.out j hj p (HTM.out j hj p hp) b hb1; have e2 := row_base HR11.out b hb2.symm; omega,
                ⟨by omega, by omega, by have := HI.out.2.2.1; omega, (fun h => by cases h), fun _ => ⟨rfl, rfl⟩⟩⟩
              --@/D
            case false =>
              --@E
              as_aux_lemma =>
              have HL := Av.mk (lst_take HS10.out HI.out.1 (by omega) hr1 (by omega) hn2 hmd0 (by omega) k hks HIK.out ga kd d ep mn m0 m1 m hm (HHB.out.2.1 rfl) X10.out HP10.out)
              go_wp2_with fail
              refine HL.out.mono ?_
              rintro e w11 ⟨bb, A, c, V11, L11, rfl, hr11, hs11, hy, hno, hap, hblk, hp11⟩
              have hbk : bb = kb := by
                cases bb <;> cases kb
                · rfl
                · obtain ⟨x, hx, hlt⟩ := (hno rfl).1
                  have := HHB.out.2.2.1 rfl x hx
                  omega
                · obtain ⟨x, hx, hlt⟩ := HHB.out.2.2.2 rfl
                  have := (hy rfl).1 x hx
                  omega
                · rfl
              subst hbk
              have X11 := Av.mk (hblk _ _ _ X10.out (by decide) (by decide) (by decide))
              have HP11 := Av.mk hp11
              have HS11 := Av.mk hs11
              have HR11 := Av.mk hr11
              have HAP := Av.mk hap
              have HY := Av.mk hy
              have HNO := Av.mk hno
              clear hs11 hr11 hy hno hap hblk hp11 HL x0 x1 x2 x3 y0 y1 y2 y3 lx ly
              have x0 := X11.out.cell 0; have x1 := X11.out.cell 1; have x2 := X11.out.cell 2; have x3 := X11.out.cell 3
              have lx := X11.out.lt
              simp at x0 x1 x2 x3
              have HE := Av.mk (L.entries_calls mn m0 m1 m hm w11)
              go_wp2_with fail
              refine HE.out.mono ?_
              rintro e w12 ⟨A2, c2, rfl, hr12, hb12⟩
              have HSAME := Av.mk (L.same55_calls mn m A A2 c c2 w10.heap.size w11.heap.size w12 (row_below HR11.out hb12) hr12 (by omega))
              have HB12 := Av.mk hb12
              clear hr12 hb12 HE
              go_wp2_with fail
              refine HSAME.out.mono ?_
              rintro e w13 ⟨rfl, hb13⟩
              have HB13 := Av.mk (below_then HB12.out HB12.out.size hb13)
              clear hb13 HSAME HB12
              go_wp2_with fail
              go_meet
              refine ⟨made + 1, bb, A, m, c, mn, V11, L11, _, ?_, rfl, rfl, HS11.out.below HB13.out, PSt.below HP11.out HB13.out, X11.out.keep (Keep.of_below (S := fun _ => False) HB13.out) (by simp), row_mono (row_below HR11.out HB13.out) HS10.out.lc.below.size, HAP.out,
                ⟨hm4, by omega, by have := HI.out.2.2.1; omega, (fun h => ?_), (fun h => ?_)⟩⟩
              · go_num
              · obtain ⟨_, A', c', h'⟩ := HY.out h
                exact ⟨by rw [h]; rfl, A', m, c', h'⟩
              · exact ⟨by rw [h]; rfl, (HNO.out h).2⟩
              --@/E
        case rest =>
          --@F
          as_aux_lemma =>
          obtain ⟨made', kb', A0, m0, c0, e0, V', Ls', M', rfl, rfl, rfl, hs, hp, hx, hr, hap, HC⟩ := hcut
          obtain ⟨w12, rfl⟩ : ∃ w12, w12 = wc := ⟨_, rfl⟩
          have HS12 := Av.mk hs
          have HP12 := Av.mk hp
          have X12 := Av.mk hx
          have HR12 := Av.mk (show ∃ xs, w12.ownsRow w.heap.size 83 2 (.slice A0 m0 c0) m0 xs ∧ ∀ t, t < m0 → ∃ z, xs[t * 2 + 1]? = some (.int .i64 z) from ⟨_, hr, fun t ht => ⟨e0, by rw [L.entC_get e0 m0 t 1 ht (by omega)]; rfl⟩⟩)
          have HAP := Av.mk hap
          have hm4 := HC.out.1
          clear hs hp hx hr hap HS10 HP10 X10 Y10 HHB HENT x0 x1 x2 x3 y0 y1 y2 y3 lx ly
          go_wp2_with fail
          go_loopw [174] (fun i' wy => ∃ j : Nat, j ≤ m0 ∧ i' = .int .i64 j ∧ Lst w wy n r g gs made' vs G V' Ls' bm D M' ∧ PSt wy w.heap.size R n n PV' (up Ls i (touch k (Ls i))) ∧ Blk wy ga 109 #[.int .u8 kd, .int .u8 d, .int .i64 ep, .int .u8 mn] ∧ ∃ xs, wy.ownsRow w.heap.size 83 2 (.slice A0 m0 c0) m0 xs ∧ ∀ t, t < m0 → ∃ z, xs[t * 2 + 1]? = some (.int .i64 z)) (fun i' _ => m0 - (intOf i').toNat)
          case atStart => exact ⟨0, Nat.zero_le _, rfl, HS12.out, HP12.out, X12.out, HR12.out⟩
          case round =>
            obtain ⟨j, hj, rfl, hs, hp, hx, xs, hr, hxs⟩ := hrel
            obtain ⟨w13, rfl⟩ : ∃ w13 : World, w13 = wr := ⟨_, rfl⟩
            have HS13 := Av.mk hs
            have HP13 := Av.mk hp
            have X13 := Av.mk hx
            have HR13 := Av.mk hr
            have HXS := Av.mk hxs
            clear hs hp hx hr hxs HS12 HP12 X12 HR12
            by_cases hlt : j < m0
            · obtain ⟨r1, rfl⟩ := L.row1_shape HR13.out (by omega)
              obtain ⟨z, hz⟩ := HXS.out j hlt
              have y1 : w13.cell? ⟨r1, j * 2 + 1, none⟩ = some (.int .i64 z) := by rw [HR13.out.cellAt _ (by omega)]; exact hz
              have y2 := HR13.out.frozenAt (j * 2 + 1)
              have ly := row_lt HR13.out r1 rfl
              go_wp2_with fail
              have hst := HR13.out.stored (j * 2 + 1) (.int .i64 (wrap64 (z - 1)))
              have hkk : Keep (fun b => b = r1) w13 (w13.setCell ⟨r1, j * 2 + 1, none⟩ (.int .i64 (wrap64 (z - 1)))) := L.kset2 (Keep.refl _ w13)
              go_roundw
              case rel => exact ⟨j + 1, by omega, by go_num, HS13.out.byOwn rfl HR13.out (row_base HR13.out r1 rfl) (fun j' hj' p hp b hb1 e => HAP.out j' hj' p hp b hb1 (by rw [e]; rfl)) hkk, HP13.out.keep hkk (fun e => row_ne_row HP13.out.row HR13.out (by decide) R rfl (by rw [e]; rfl)) (fun j' hj' b hb1 e => row_ne_row (HP13.out.prs j' hj') HR13.out (by decide) b hb1 (by rw [e]; rfl)), X13.out.keep hkk (fun e => row_ne HR13.out X13.out (by decide) (by rw [e]; rfl)), _, hst.1, fun t ht => by
                  rw [List.getElem?_set]
                  split
                  · split
                    · exact ⟨_, rfl⟩
                    · have := HR13.out.1; omega
                  · exact HXS.out t ht⟩
              case measure => simp [intOf]; omega
            · obtain rfl : j = m0 := by omega
              clear HR13 HXS HAP
              go_upto_if 186 with (fail)
              go_cut [] (fun wx => ∃ (PV2 : Nat → Value) (D2 : DataW AV), Lst w wx n r g gs made' vs G V' Ls' bm D2 M' ∧ PSt wx w.heap.size R n n PV2 Ls' ∧ Av (LFit n r (q + 1) Ls' D2 M' ∧ Maps.size D2 ≤ q + 1))
              case first =>
                cases kb'
                case false =>
                  go_wp2_with fail
                  go_meet
                  obtain ⟨hM, hL⟩ := HC.out.2.2.2.2 (by simp)
                  exact ⟨PV', D, HS13.out, by rw [hL]; exact HP13.out, ⟨by rw [hM, hL]; exact (HI.out.1.touch hil k).mono (by omega), by have := HI.out.2.2.2; omega⟩⟩
                case true =>
                  as_aux_lemma =>
                  obtain ⟨hM, Ae, me, ce, hL⟩ := HC.out.2.2.2.1 (by simp)
                  have HM := Av.mk hM
                  have HL := Av.mk hL
                  clear hM hL
                  have hpr := HP13.out.prs i hil
                  rw [up_same] at hpr
                  obtain ⟨Aq, cq, hpv⟩ := own_slice hpr
                  have hpr' : Pairs w13 w.heap.size (.slice Aq (zl (touch k (Ls i))).length cq) (zl (touch k (Ls i))) := by rw [← hpv]; exact hpr
                  have cR := HP13.out.cell i hil
                  rw [hpv] at cR
                  have lR := HP13.out.lt
                  have htl := touch_length (k := k) (HI.out.1.nd i hil)
                  have HPUT := Av.mk (put13_is w.heap.size _ r (touch k (Ls i)) k ⟨ep, Ae, me, ce⟩ w13 hpr' (by omega) (by omega) hr1)
                  clear hpr hpr' hpv
                  go_wp2_with fail
                  refine HPUT.out.mono ?_
                  rintro e w14 ⟨Ar, cr, gone, is, rfl, hp14, hb14⟩
                  have HS14 := Av.mk (HS13.out.below hb14)
                  have HP14 := Av.mk (HP13.out.below hb14)
                  have X14 := Av.mk (X13.out.keep (Keep.of_below (S := fun _ => False) hb14) (by simp))
                  have cR14 := HP14.out.cell i hil
                  have fR14 := HP14.out.frozen i
                  have lR14 := HP14.out.lt
                  have HSET := Av.mk (HP14.out.set i hil _ _ (row_mono hp14 HS13.out.lc.below.size) rfl)
                  have HS15 := Av.mk (HS14.out.byRow HP14.out.row HSET.out.2)
                  have X15 := Av.mk (X14.out.keep HSET.out.2 (fun e => row_ne HP14.out.row X14.out (by decide) (by rw [e]; rfl)))
                  have m0 := X14.out.cell 0; have m1 := X14.out.cell 1; have m2 := X14.out.cell 2; have m3 := X14.out.cell 3
                  have lm := X14.out.lt
                  have hgR : ga ≠ R := fun e => row_ne HP14.out.row X14.out (by decide) (by rw [e]; rfl)
                  have hgR2 : R ≠ ga := hgR.symm
                  simp at m0 m1 m2 m3
                  clear hp14 hb14 HPUT
                  have HDEC := Av.mk (show decA (.agg #[.int .u8 kd, .int .u8 d, .int .i64 ep, .int .u8 mn]) = some ⟨kd, d, ep, mn⟩ from decA_enc ⟨kd, d, ep, mn⟩)
                  go_wp2_with (first | (at_mapUpdate; refine wpList_store decA rfl _ _ _ 107 rfl 9 109 L.law9 Try.underlying107 bm _ D rfl HS15.out.map (by have := HI.out.2.2.2; unfold maxLen; omega) _ _ _ rfl rfl hkey.out ⟨kd, d, ep, mn⟩ HDEC.out ?_; intro w16 hown16 hturn16; have HO16 := Av.mk hown16; have HT16 := Av.mk hturn16; clear hown16 hturn16))
                  have HS16 := Av.mk (HS15.out.byMap HO16.out HT16.out)
                  have HP16 := Av.mk (PSt.byMap HSET.out.1 HS15.out HT16.out)
                  have htd := HS15.out.map.tidy L.law9
                  have hfit := (HI.out.1.touch hil k).put htd.isMap (by omega) hil k HIK.out ⟨kd, d, ep, mn⟩ ⟨ep, Ae, me, ce⟩ rfl
                  rw [up_same, L.up_up] at hfit
                  rw [L.up_up] at HP16
                  go_meet
                  exact ⟨_, _, HS16.out, by rw [HL.out]; exact HP16.out, ⟨by rw [HM.out, HL.out]; exact hfit, by have := HI.out.2.2.2; rw [size_put htd]; split <;> omega⟩⟩
              case rest =>
                obtain ⟨PV2, D2, hs, hp, HC2⟩ := hcut
                obtain ⟨w14, rfl⟩ : ∃ w14, w14 = wc := ⟨_, rfl⟩
                have HS14 := Av.mk hs
                have HP14 := Av.mk hp
                have hpr := hp.prs i hil
                obtain ⟨Aq, cq, hpv⟩ := own_slice hpr
                have cR := hp.cell i hil
                rw [hpv, zl_length] at cR
                have lR := hp.lt
                have hml : ¬ r < ((most (fun j => (Ls' j).length) n : Nat) : Int) := by
                  have := most_le (fun j => (Ls' j).length) r.toNat n (fun j hj => by have := (HC2.out.1.len j hj).1; omega)
                  omega
                have hmd := HC.out.2.1
                have hmd2 := HC.out.2.2.1
                clear hs hp hpr hpv HS13 HP13 X13
                have HQ1 : Av (∀ m, Calls Try.prog 57 #[.pointer (some ⟨g, 0, none⟩), .string k] (w14.drewN m) (fun e w' => e = .returned (.int .i64 (i : Int)) ∧ ∃ m', w' = (w14.drewN m).drewN m')) := ⟨fun m => HOF.out _ _ _ _ (HS14.out.lc.drewN m)⟩
                have HQ2 : Av (∀ m, Calls Try.prog 58 #[.pointer (some ⟨g, 0, none⟩), .int .i64 i] (w14.drewN m) (fun e w' => e = .returned (.int .i64 ((Ls' i).length : Int)) ∧ ∃ m', w' = (w14.drewN m).drewN m')) := ⟨fun m => (L.len_L (HS14.out.lc.drewN m) i hil).mono (fun _ _ h => ⟨h.1, 0, h.2.symm⟩)⟩
                have HQ3 : Av (∀ m, Calls Try.prog 59 #[.pointer (some ⟨g, 0, none⟩)] (w14.drewN m) (fun e w' => e = .returned (.int .i64 (most (fun j => (Ls' j).length) n)) ∧ ∃ m', w' = (w14.drewN m).drewN m')) := ⟨fun m => (L.most_L (HS14.out.lc.drewN m) hn2).mono (fun _ _ h => ⟨h.1, 0, h.2.symm⟩)⟩
                have HQ4 : Av (∀ m, Calls Try.prog 51 #[.pointer (some ⟨g, 0, none⟩)] (w14.drewN m) (fun e w' => e = .returned (.int .i64 made') ∧ ∃ m', w' = (w14.drewN m).drewN m')) := ⟨fun m => (L.made_L (HS14.out.lc.drewN m)).mono (fun _ _ h => ⟨h.1, 0, h.2.symm⟩)⟩
                go_wp2_with fail
                go_quiet (first | (go_at_call 57; refine Calls.quiet_of (HQ1.out _)) | (go_at_call 58; refine Calls.quiet_of (HQ2.out _)) | (go_at_call 59; refine Calls.quiet_of (HQ3.out _)) | (go_at_call 51; refine Calls.quiet_of (HQ4.out _)))
                go_wp2_with fail
                refine ⟨⟨q + 1, made', V', Ls', PV2, D2, M', by omega, by go_num, rfl, HS14.out.drewN _, HP14.out.drewN _, ⟨HC2.out.1, hmd, hmd2, HC2.out.2⟩⟩, ?_⟩
                simp [intOf]
                omega
          --@/F
    · obtain rfl : q = N := by omega
      have HC := Av.mk (L.many_L HS.out.lc)
      have HBE := Av.mk HS.out.lc.below
      go_wp2_with fail
      refine HC.out.mono ?_
      rintro e _ ⟨rfl, rfl⟩
      go_wp2
      go_ret
      exact ⟨rfl, HBE.out⟩
end Go.Proofs.Ytiopmehaghcpfaa.Ld
