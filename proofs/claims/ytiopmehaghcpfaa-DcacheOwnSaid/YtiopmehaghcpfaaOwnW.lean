/- DcacheOwn: the walk. Printed by mac.py from OwnW.src. -/
import Derived.Test.YtiopmehaghcpfaaSpk15
import Derived.Deep.DeepCutAuto
namespace Go.Proofs.Ytiopmehaghcpfaa.E
open Go.Proofs.Ytiopmehaghcpfaa
open Go.RowKit Go.Maps
attribute [local go_sem ↓] run_max_int run_min_int

theorem Dc.set70 {w0 w w' : World} {g gs n : Nat} {r hits misses : Int} {vs : Value} {G : Nat → Nat} {V : Nat → Value} {Ls : Nat → PL} {b m : Nat} {v : Value} {xs : List Value} (h : Dc w0 w g gs n r hits misses vs G V Ls) (hx : w.ownsRow b 70 2 v m xs) (hb : w0.heap.size ≤ b) (hk : Keep (fun k => some k = v.ownBlock) w w') : Dc w0 w' g gs n r hits misses vs G V Ls :=
  ⟨h.blk.keep hk (row_ne hx h.blk (by decide)), h.sh.keep hk (row_ne hx h.sh.blk (by decide)) (fun k hk' e => row_ne_row h.sh.row hx (by decide) k hk' e),
    h.fam.keep hk (fun i hi => row_ne hx (h.fam.lru i hi).blk (by decide)) (fun i k hi hk' e => row_ne_row (h.fam.lru i hi).row hx (by decide) k hk' e), below_keep h.below h.below.size hk (fun k e => Nat.le_trans hb (row_base hx k e)), h.hg⟩
theorem row1_shape {w : World} {b : Nat} {A : Option Addr} {c : Nat} {xs : List Value} (h : w.ownsRow b 70 2 (.slice A 1 c) 1 xs) : ∃ r, A = some ⟨r, 0, none⟩ := by
  rcases h.2 with ⟨e, _⟩ | ⟨r, cap, cur, e, _⟩
  · cases e
  · cases e; exact ⟨r, rfl⟩
theorem chd_size (dir s : ByteArray) (h1 : dir.size ≤ 4) (h2 : s.size ≤ 64) : (chd dir s).size ≤ 3000 := by
  unfold chd
  split
  · rw [ByteArray.size_append]; omega
  · rw [ByteArray.size_append, ByteArray.size_append]
    have : sl.size = 1 := rfl
    omega

set_option maxRecDepth 100000 in
set_option maxHeartbeats 4000000 in
theorem own_walk (kp th : Bool) (d : Int) (nm : ByteArray) (ep mk : Int) (h0 : 0 ≤ d) (h1 : d ≤ 255) (w : World) :
    Calls Try.prog 10 #[.agg #[.bool kp, .bool th, .int .u8 d, .string nm, .int .i64 ep, .int .i64 mk]] w (RetB (.bool true) w) := by
  go_enter Try.func10, Try.ntmps10
  go_wp2_with fail
  have X0 := Av.mk (Blk.new w 101 #[.bool kp, .bool th, .int .u8 d, .string nm, .int .i64 ep, .int .i64 mk])
  have HB0 := Av.mk (below_alloc (Below.refl _ w) (.cells #[.bool kp, .bool th, .int .u8 d, .string nm, .int .i64 ep, .int .i64 mk] 101))
  generalize w.alloc (.cells #[.bool kp, .bool th, .int .u8 d, .string nm, .int .i64 ep, .int .i64 mk] 101) = w1 at *
  refine (speaks15 w1).mono ?_
  rintro e w2 ⟨rfl, hb2⟩
  have X2 := Av.mk (X0.out.keep (Keep.of_below (S := fun _ => False) hb2) (by simp))
  have HB2 := Av.mk (below_then HB0.out HB0.out.size hb2)
  clear hb2 X0 HB0
  have x0 := X2.out.cell 0; have x1 := X2.out.cell 1; have x2 := X2.out.cell 2; have x3 := X2.out.cell 3; have x4 := X2.out.cell 4; have x5 := X2.out.cell 5
  have lx := X2.out.lt
  simp at x0 x1 x2 x3 x4 x5
  go_wp2_with fail
  refine (right_calls nm w2).mono ?_
  rintro e _ ⟨b, rfl, hb, rfl⟩
  have HNB := Av.mk hb
  clear hb
  cases b
  case false =>
    go_wp2
    go_ret
    exact ⟨rfl, HB2.out⟩
  have hnm := HNB.out rfl
  clear HNB
  have HN := Av.mk (fun W (hW : Below w.heap.size w W) => new_D 1 1 1 (by decide) (by decide) (by decide) w W hW)
  go_wp2_with fail
  have HDI := Av.mk (dirOf_size d)
  have HDC := Av.mk (fun W => dir_calls d h0 h1 W)
  generalize dirOf d = dir at *
  obtain ⟨k, hk⟩ : ∃ k, chd dir nm = k := ⟨_, rfl⟩
  have hks : k.size ≤ 3000 := by rw [← hk]; exact chd_size _ _ HDI.out hnm
  have HKK := Av.mk hk
  have hds := HDI.out
  clear hk HDI
  go_upto_region 5 with (fail)
  go_cut [3, 4] (fun s3 s4 wx => ∃ (g gs : Nat) (vs : Value) (G : Nat → Nat) (V : Nat → Value), s3 = .pointer (some ⟨g, 0, none⟩) ∧ s4 = .string dir ∧ Dc w wx g gs 1 1 0 0 vs G V (fun _ => []) ∧ Blk wx w.heap.size 101 #[.bool kp, .bool th, .int .u8 d, .string nm, .int .i64 ep, .int .i64 mk])
  case first =>
    go_region_with (first | (go_at_call 38; refine (HN.out w2.drew ⟨HB2.out.os, HB2.out.tape, HB2.out.output, HB2.out.size, HB2.out.block⟩).mono ?_; rintro e w3 ⟨g, vs, G, V, rfl, _, hd3, hb3⟩; have HD3 := Av.mk hd3; have X3 := Av.mk (X2.out.drew.keep (Keep.of_below (S := fun _ => False) hb3) (by simp)); have t2 := X3.out.cell 2; have lx3 := X3.out.lt; simp at t2; clear hd3 hb3) | (go_at_call 47; refine (HDC.out _).mono ?_; rintro e _ ⟨rfl, rfl⟩))
    all_goals
      go_wp2_with fail
      go_meet
      exact ⟨g, _, vs, G, V, rfl, rfl, HD3.out, X3.out⟩
  case rest =>
    obtain ⟨g, gs, vs, G, V, rfl, rfl, hd3, hx3⟩ := hcut
    obtain ⟨w3, rfl⟩ : ∃ w3, w3 = wc := ⟨_, rfl⟩
    have HD3 := Av.mk hd3
    have X3 := Av.mk hx3
    have lx3 := hx3.lt
    clear hd3 hx3 x0 x1 x2 x3 x4 x5 HB2 X2 HN HDC lx
    have x0 := X3.out.cell 0; have x1 := X3.out.cell 1; have x2 := X3.out.cell 2; have x3 := X3.out.cell 3; have x4 := X3.out.cell 4; have x5 := X3.out.cell 5
    simp at x0 x1 x2 x3 x4 x5
    obtain ⟨i, hi⟩ : ∃ i, shd 1 k = i := ⟨_, rfl⟩
    have hil : i < 1 := by rw [← hi]; exact shd_lt (by decide) _
    have HI := Av.mk hi
    clear hi
    go_wp2_with fail
    refine (entry_calls kp th d nm ep mk w3).mono ?_
    rintro e w4 ⟨rr, rfl, hr4, hb4⟩
    have HR4 := Av.mk hr4
    have HD4 := Av.mk (HD3.out.grow hb4)
    have X4 := Av.mk (X3.out.keep (Keep.of_below (S := fun _ => False) hb4) (by simp))
    have HD0L := Av.mk HD3.out.below.size
    clear hr4 hb4 HD3 X3 x0 x1 x2 x3 x4 x5 lx3
    go_upto_region 7 with (fail)
    have E5 := Av.mk (Blk.new w4 76 #[.int .i64 ep, .bool th, .int .i64 mk, .int .i64 0, .int .i64 0, .slice (some ⟨rr, 0, none⟩) 1 1, .string nm])
    have KZ := (Keep.refl (fun _ => False) w4).alloc (.cells #[.int .i64 ep, .bool th, .int .i64 mk, .int .i64 0, .int .i64 0, .slice (some ⟨rr, 0, none⟩) 1 1, .string nm] 76)
    have HD5 := Av.mk (HD4.out.grow (below_of_keep KZ))
    have X5 := Av.mk (X4.out.keep KZ (by simp))
    have HR5 := Av.mk (row_keep HR4.out KZ (by simp))
    have hrr := row_lt HR5.out rr rfl
    clear KZ HD4 X4 HR4
    generalize w4.alloc (.cells #[.int .i64 ep, .bool th, .int .i64 mk, .int .i64 0, .int .i64 0, .slice (some ⟨rr, 0, none⟩) 1 1, .string nm] 76) = w5 at *
    generalize w4.heap.size = g5 at *
    have x0 := X5.out.cell 0; have x1 := X5.out.cell 1; have x2 := X5.out.cell 2; have x3 := X5.out.cell 3; have x4 := X5.out.cell 4; have x5 := X5.out.cell 5; have y0 := E5.out.cell 0; have y1 := E5.out.cell 1; have y2 := E5.out.cell 2; have y3 := E5.out.cell 3; have y4 := E5.out.cell 4; have y5 := E5.out.cell 5; have y6 := E5.out.cell 6
    have lx := X5.out.lt
    have ly := E5.out.lt
    simp at x0 x1 x2 x3 x4 x5 y0 y1 y2 y3 y4 y5 y6
    have HKY := Av.mk (keep_yes w w5 g gs 1 1 0 0 vs G V (fun _ => []) HD5.out (by decide) (by decide) dir nm k (by omega) (by omega) HKK.out hks i HI.out ⟨0, false, 0, 0, 0, none, 0, 0, ⟨#[]⟩⟩ ⟨ep, th, mk, 0, 0, (some ⟨rr, 0, none⟩), 1, 1, nm⟩ [] false
      (getIs_not 1 [] k (by decide) (by simp)) (.inl rfl) (fun A c => [(k, ⟨ep, th, mk, 0, 0, A, 1, c, nm⟩)]) (fun A c => ⟨_, _, putIs_fits 1 [] k _ (by simp) (by decide) (by decide)⟩) w3.heap.size [.int .i64 mk, .int .i64 0] HR5.out (by simp [Value.oneCell']) (by simp))
    go_wp2_with fail
    refine HKY.out.mono ?_
    rintro e w6 ⟨rfl, A, c, V', hr6, hd6, _, k6⟩
    have HC6 := Av.mk hr6
    have HD6 := Av.mk hd6
    have X6 := Av.mk (HD5.out.blkC hil k6 X5.out (by decide) (by decide) (by decide))
    have E6 := Av.mk (HD5.out.blkC hil k6 E5.out (by decide) (by decide) (by decide))
    have HR6 := Av.mk (HD5.out.row70 hil k6 HR5.out)
    clear hr6 hd6 k6 HD5 X5 E5 HR5 HKY x0 x1 x2 x3 x4 x5 y0 y1 y2 y3 y4 y5 y6 lx ly
    have x0 := X6.out.cell 0; have x1 := X6.out.cell 1; have x2 := X6.out.cell 2; have x3 := X6.out.cell 3; have x4 := X6.out.cell 4; have x5 := X6.out.cell 5; have y0 := E6.out.cell 0; have y1 := E6.out.cell 1; have y2 := E6.out.cell 2; have y3 := E6.out.cell 3; have y4 := E6.out.cell 4; have y5 := E6.out.cell 5; have y6 := E6.out.cell 6
    have lx := X6.out.lt
    have ly := E6.out.lt
    have v0 := HR6.out.cellAt 0 (by decide)
    have u0 := HR6.out.frozenAt 0
    have lrr := row_lt HR6.out rr rfl
    simp at x0 x1 x2 x3 x4 x5 y0 y1 y2 y3 y4 y5 y6 v0
    go_upto_region 10 with (fail)
    have K7 := kset2 (i := 0) (u := .int .i64 (wrap64 (mk + 1))) (Keep.refl (fun k => k = rr) w6)
    have hne6 : ∀ k, (Value.slice A 1 c).ownBlock = some k → ¬ k = rr := fun k hk => by have := row_base HC6.out k hk.symm; omega
    have K7' : Keep (fun k => some k = (Value.slice (some ⟨rr, 0, none⟩) 1 1).ownBlock) w6 _ := K7.mono (fun k _ (e : k = rr) => by rw [e]; rfl)
    have HD7 := Av.mk (HD6.out.set70 HR6.out (HD0L.out) K7')
    have X7 := Av.mk (X6.out.keep K7' (row_ne HR6.out X6.out (by decide)))
    have HC7 := Av.mk (row_keep HC6.out K7 hne6)
    clear HD6 X6 E6 HR6 HC6 x0 x1 x2 x3 x4 x5 y0 y1 y2 y3 y4 y5 y6 v0 u0 lrr K7 K7' hne6 lx ly hrr
    generalize w6.setCell ⟨rr, 0, none⟩ (.int .i64 (wrap64 (mk + 1))) = w7 at *
    have x0 := X7.out.cell 0; have x1 := X7.out.cell 1; have x2 := X7.out.cell 2; have x3 := X7.out.cell 3; have x4 := X7.out.cell 4; have x5 := X7.out.cell 5
    have lx := X7.out.lt
    simp at x0 x1 x2 x3 x4 x5
    have hg : GetIs 1 (up (fun _ => ([] : PL)) i [(k, ⟨ep, th, mk, 0, 0, A, 1, c, nm⟩)] i) k [(k, ⟨ep, th, mk, 0, 0, A, 1, c, nm⟩)] ⟨ep, th, mk, 0, 0, A, 1, c, nm⟩ true := by
      rw [up_same]
      have := getIs_hit 1 [(k, ⟨ep, th, mk, 0, 0, A, 1, c, nm⟩)] k ⟨ep, th, mk, 0, 0, A, 1, c, nm⟩ (by simp) (by simp) (by simp)
      rwa [useL_one] at this
    have HG := Av.mk hg
    clear hg
    have HL := Av.mk (look_hit w w7 g gs 1 1 0 0 vs G V' _ HD7.out (by decide) (by decide) (by decide) (by decide) dir nm k (by omega) (by omega) HKK.out hks i HI.out ⟨ep, th, mk, 0, 0, A, 1, c, nm⟩ [(k, ⟨ep, th, mk, 0, 0, A, 1, c, nm⟩)] HG.out w5.heap.size [.int .i64 mk, .int .i64 0] HC7.out (by simp [Value.oneCell']) (by simp))
    go_wp2_with fail
    refine HL.out.mono ?_
    rintro e w8 ⟨A8, c8, rfl, hr8, hd8, k8⟩
    obtain ⟨r8, rfl⟩ := row1_shape hr8
    rw [up_up] at hd8
    have HD8 := Av.mk hd8
    have HR8 := Av.mk hr8
    have X8 := Av.mk (HD7.out.blkC hil k8 X7.out (by decide) (by decide) (by decide))
    have HC8 := Av.mk (HD7.out.row70 hil k8 HC7.out)
    have h7r := row_lt HC7.out
    have HD7L := Av.mk HD7.out.below.size
    clear hd8 hr8 k8 HL HD7 X7 HC7 x0 x1 x2 x3 x4 x5 lx
    go_upto_region 11 with (fail)
    have F9 := Av.mk (Blk.new w8 76 #[.int .i64 ep, .bool th, .int .i64 mk, .int .i64 0, .int .i64 0, .slice (some ⟨r8, 0, none⟩) 1 c8, .string nm])
    have KZ := (Keep.refl (fun _ => False) w8).alloc (.cells #[.int .i64 ep, .bool th, .int .i64 mk, .int .i64 0, .int .i64 0, .slice (some ⟨r8, 0, none⟩) 1 c8, .string nm] 76)
    have HD9 := Av.mk (HD8.out.grow (below_of_keep KZ))
    have X9 := Av.mk (X8.out.keep KZ (by simp))
    have HR9 := Av.mk (row_keep HR8.out KZ (by simp))
    have HC9 := Av.mk (row_keep HC8.out KZ (by simp))
    have hr87 := row_base HR8.out r8 rfl
    clear KZ HD8 X8 HR8
    generalize w8.alloc (.cells #[.int .i64 ep, .bool th, .int .i64 mk, .int .i64 0, .int .i64 0, .slice (some ⟨r8, 0, none⟩) 1 c8, .string nm] 76) = w9 at *
    generalize w8.heap.size = g9 at *
    have x0 := X9.out.cell 0; have x1 := X9.out.cell 1; have x2 := X9.out.cell 2; have x3 := X9.out.cell 3; have x4 := X9.out.cell 4; have x5 := X9.out.cell 5; have y0 := F9.out.cell 0; have y1 := F9.out.cell 1; have y2 := F9.out.cell 2; have y3 := F9.out.cell 3; have y4 := F9.out.cell 4; have y5 := F9.out.cell 5; have y6 := F9.out.cell 6
    have lx := X9.out.lt
    have ly := F9.out.lt
    simp at x0 x1 x2 x3 x4 x5 y0 y1 y2 y3 y4 y5 y6
    go_cut [56] (fun s wx => s = .bool false ∧ Dc w wx g gs 1 1 (0 + 1) 0 vs G V' (up (fun _ => []) i [(k, ⟨ep, th, mk, 0, 0, A, 1, c, nm⟩)]) ∧ Blk wx w.heap.size 101 #[.bool kp, .bool th, .int .u8 d, .string nm, .int .i64 ep, .int .i64 mk] ∧ wx.ownsRow w7.heap.size 70 2 (.slice (some ⟨r8, 0, none⟩) 1 c8) 1 [.int .i64 mk, .int .i64 0] ∧ wx.ownsRow w5.heap.size 70 2 (.slice A 1 c) 1 [.int .i64 mk, .int .i64 0] ∧ Blk wx g9 76 #[.int .i64 ep, .bool th, .int .i64 mk, .int .i64 0, .int .i64 0, .slice (some ⟨r8, 0, none⟩) 1 c8, .string nm])
    case first =>
      go_region_with (first | (go_at_call 53; refine (entry_calls kp th d nm ep mk w9.drew).mono ?_; rintro e wa ⟨ra, rfl, hra, hba⟩; have HRA := Av.mk hra; have HR10 := Av.mk (row_below HR9.out.drew hba); have HC10 := Av.mk (row_below HC9.out.drew hba); have HD10 := Av.mk (HD9.out.drew.grow hba); have X10 := Av.mk (X9.out.drew.keep (Keep.of_below (S := fun _ => False) hba) (by simp)); have F10 := Av.mk (F9.out.drew.keep (Keep.of_below (S := fun _ => False) hba) (by simp)); have p0 := F10.out.cell 0; have p1 := F10.out.cell 1; have p2 := F10.out.cell 2; have p3 := F10.out.cell 3; have p4 := F10.out.cell 4; have p5 := F10.out.cell 5; have p6 := F10.out.cell 6; have lp := F10.out.lt; simp at p0 p1 p2 p3 p4 p5 p6; clear hra hba) | (go_at_call 54; refine (same_calls ep th mk 0 0 nm (some ⟨r8, 0, none⟩) (some ⟨ra, 0, none⟩) c8 1 [(mk, 0)] _ _ wa HR10.out HRA.out (by simp)).mono ?_; rintro e wb ⟨rfl, hbb⟩; have HR11 := Av.mk (row_below HR10.out hbb); have HC11 := Av.mk (row_below HC10.out hbb); have HD11 := Av.mk (HD10.out.grow hbb); have X11 := Av.mk (X10.out.keep (Keep.of_below (S := fun _ => False) hbb) (by simp)); have F11 := Av.mk (F10.out.keep (Keep.of_below (S := fun _ => False) hbb) (by simp)); clear hbb))
      all_goals
        go_wp2_with fail
        go_meet
        exact ⟨rfl, HD11.out, X11.out, HR11.out, HC11.out, F11.out⟩
    case rest =>
      obtain ⟨rfl, hda, hxa, hra, hca, hfa⟩ := hcut
      obtain ⟨wa, rfl⟩ : ∃ wa, wa = wc := ⟨_, rfl⟩
      have HDA := Av.mk hda
      have XA := Av.mk hxa
      have RA := Av.mk hra
      have CA := Av.mk hca
      have FA := Av.mk hfa
      clear hda hxa hra hca hfa HC8 HD9 X9 HR9 HC9 F9 lx ly x0 x1 x2 x3 x4 x5 y0 y1 y2 y3 y4 y5 y6
      have x0 := XA.out.cell 0; have x1 := XA.out.cell 1; have x2 := XA.out.cell 2; have x3 := XA.out.cell 3; have x4 := XA.out.cell 4; have x5 := XA.out.cell 5; have y0 := FA.out.cell 0; have y1 := FA.out.cell 1; have y2 := FA.out.cell 2; have y3 := FA.out.cell 3; have y4 := FA.out.cell 4; have y5 := FA.out.cell 5; have y6 := FA.out.cell 6
      have lx := XA.out.lt
      have ly := FA.out.lt
      have v1 := RA.out.cellAt 1 (by decide)
      have u1 := RA.out.frozenAt 1
      have l8 := row_lt RA.out r8 rfl
      simp at x0 x1 x2 x3 x4 x5 y0 y1 y2 y3 y4 y5 y6 v1
      go_upto_region 14 with (fail)
      have KB := kset2 (i := 1) (u := .int .i64 1) (Keep.refl (fun k => k = r8) wa)
      have hneA : ∀ k, (Value.slice A 1 c).ownBlock = some k → ¬ k = r8 := fun k hk => by have := h7r k hk.symm; omega
      have KB' : Keep (fun k => some k = (Value.slice (some ⟨r8, 0, none⟩) 1 c8).ownBlock) wa _ := KB.mono (fun k _ (e : k = r8) => by rw [e]; rfl)
      have HDB := Av.mk (HDA.out.set70 RA.out (by have := HD7L.out; exact this) KB')
      have XB := Av.mk (XA.out.keep KB' (row_ne RA.out XA.out (by decide)))
      have CB := Av.mk (row_keep CA.out KB hneA)
      clear HDA XA RA CA FA x0 x1 x2 x3 x4 x5 y0 y1 y2 y3 y4 y5 y6 lx ly v1 u1 l8 KB KB' hneA
      generalize wa.setCell ⟨r8, 1, none⟩ (.int .i64 1) = wb at *
      have x0 := XB.out.cell 0; have x1 := XB.out.cell 1; have x2 := XB.out.cell 2; have x3 := XB.out.cell 3; have x4 := XB.out.cell 4; have x5 := XB.out.cell 5
      have lx := XB.out.lt
      simp at x0 x1 x2 x3 x4 x5
      have HL := Av.mk (look_hit w wb g gs 1 1 (0 + 1) 0 vs G V' _ HDB.out (by decide) (by decide) (by decide) (by decide) dir nm k (by omega) (by omega) HKK.out hks i HI.out ⟨ep, th, mk, 0, 0, A, 1, c, nm⟩ [(k, ⟨ep, th, mk, 0, 0, A, 1, c, nm⟩)] HG.out w5.heap.size [.int .i64 mk, .int .i64 0] CB.out (by simp [Value.oneCell']) (by simp))
      go_wp2_with fail
      refine HL.out.mono ?_
      rintro e wd ⟨AD, cd, rfl, hrd, hdd, kd⟩
      have HBD := Av.mk hdd.below
      have HRD := Av.mk hrd
      have XD := Av.mk (HDB.out.blkC hil kd XB.out (by decide) (by decide) (by decide))
      clear hdd hrd kd HL HDB XB CB x0 x1 x2 x3 x4 x5 lx
      go_upto_region 15 with (fail)
      have FE := Av.mk (Blk.new wd 76 #[.int .i64 ep, .bool th, .int .i64 mk, .int .i64 0, .int .i64 0, .slice AD 1 cd, .string nm])
      have KZ := (Keep.refl (fun _ => False) wd).alloc (.cells #[.int .i64 ep, .bool th, .int .i64 mk, .int .i64 0, .int .i64 0, .slice AD 1 cd, .string nm] 76)
      have HBE := Av.mk (below_then HBD.out HBD.out.size (below_of_keep KZ))
      have XE := Av.mk (XD.out.keep KZ (by simp))
      have RE := Av.mk (row_keep HRD.out KZ (by simp))
      clear KZ HBD XD HRD
      generalize wd.alloc (.cells #[.int .i64 ep, .bool th, .int .i64 mk, .int .i64 0, .int .i64 0, .slice AD 1 cd, .string nm] 76) = we at *
      generalize wd.heap.size = ge at *
      have x0 := XE.out.cell 0; have x1 := XE.out.cell 1; have x2 := XE.out.cell 2; have x3 := XE.out.cell 3; have x4 := XE.out.cell 4; have x5 := XE.out.cell 5; have y0 := FE.out.cell 0; have y1 := FE.out.cell 1; have y2 := FE.out.cell 2; have y3 := FE.out.cell 3; have y4 := FE.out.cell 4; have y5 := FE.out.cell 5; have y6 := FE.out.cell 6
      have lx := XE.out.lt
      have ly := FE.out.lt
      simp at x0 x1 x2 x3 x4 x5 y0 y1 y2 y3 y4 y5 y6
      go_region_with (first | (go_at_call 53; refine (entry_calls kp th d nm ep mk we.drew).mono ?_; rintro e wf ⟨ra, rfl, hra, hba⟩; have HRA := Av.mk hra; have HRF := Av.mk (row_below RE.out.drew hba); have HBF := Av.mk (show Below w.heap.size w wf from below_then (below_drewN HBE.out 1) HBE.out.size hba); have FF := Av.mk (FE.out.drew.keep (Keep.of_below (S := fun _ => False) hba) (by simp)); have p0 := FF.out.cell 0; have p1 := FF.out.cell 1; have p2 := FF.out.cell 2; have p3 := FF.out.cell 3; have p4 := FF.out.cell 4; have p5 := FF.out.cell 5; have p6 := FF.out.cell 6; have lp := FF.out.lt; simp at p0 p1 p2 p3 p4 p5 p6; clear hra hba) | (go_at_call 54; refine (same_calls ep th mk 0 0 nm AD (some ⟨ra, 0, none⟩) cd 1 [(mk, 0)] _ _ wf HRF.out HRA.out (by simp)).mono ?_; rintro e wg ⟨rfl, hbb⟩; have HBG := Av.mk (below_then HBF.out HBF.out.size hbb); clear hbb))
      all_goals
        go_wp2
        go_ret
        exact ⟨rfl, HBG.out⟩
end Go.Proofs.Ytiopmehaghcpfaa.E
