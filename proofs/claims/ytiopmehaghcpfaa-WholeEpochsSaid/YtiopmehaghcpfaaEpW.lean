/- WholeEpochs: the walk. Printed by mac.py from EpW.src. -/
import Derived.Test.YtiopmehaghcpfaaEpQ
import Derived.Test.YtiopmehaghcpfaaEntP
import Derived.Test.YtiopmehaghcpfaaSpk16
namespace Go.Proofs.Ytiopmehaghcpfaa.Ep
open Go.Proofs.Ytiopmehaghcpfaa
open Go.RowKit Go.Maps
set_option linter.unusedSimpArgs false
set_option linter.unusedVariables false
attribute [local go_sem ↓] run_max_int run_min_int

/-- What was kept, in the order of the argument. -/
structure Kp where
  nm : ByteArray
  ep : Int
  li : Bool
def KArg (w : World) (A : Option Addr) (n : Nat) (F : Nat → Kp) : Prop :=
  0 < n → ∃ b off, A = some ⟨b, off, none⟩ ∧ b < w.heap.size ∧ ∀ i, i < n → 0 ≤ (F i).ep ∧ (F i).ep ≤ 255 ∧ w.cell? ⟨b, off + i * 3, none⟩ = some (.string (F i).nm) ∧ w.cell? ⟨b, off + i * 3 + 1, none⟩ = some (.int .u8 (F i).ep) ∧ w.cell? ⟨b, off + i * 3 + 2, none⟩ = some (.bool (F i).li)

set_option maxRecDepth 100000 in
set_option maxHeartbeats 8000000 in
theorem ep_walk (A : Option Addr) (N c : Nat) (F : Nat → Kp) (a1 a2 : Int) (w : World) (hA : KArg w A N F) (h1 : 0 ≤ a1) (h2 : a1 ≤ 255) (h3 : 0 ≤ a2) (h4 : a2 ≤ 255) :
    Calls Try.prog 7 #[.slice A N c, .int .u8 a1, .int .u8 a2] w (RetB (.bool true) w) := by
  obtain ⟨n, hn, hn1, hn2⟩ : ∃ n : Nat, mn (mx a1 1) 256 = (n : Int) ∧ 1 ≤ n ∧ n ≤ 256 := by
    refine ⟨(mn (mx a1 1) 256).toNat, ?_, ?_, ?_⟩ <;> (unfold mn mx; split <;> split <;> omega)
  obtain ⟨r, hr, hr1⟩ : ∃ r : Int, r = mx a2 1 ∧ 1 ≤ r := ⟨_, rfl, by unfold mx; split <;> omega⟩
  have HA := Av.mk hA
  have HN := Av.mk hn
  have HR := Av.mk hr
  have hmm := @run_makeMap Try.prog
  have hc1 : IntKind.i64.wrap a1 = a1 := wrapI (by omega) (by omega)
  have hc2 : IntKind.i64.wrap a2 = a2 := wrapI (by omega) (by omega)
  clear hA hn hr
  go_enter Try.func7, Try.ntmps7
  go_wp2_with fail
  refine (E.new_D a1 a2 n HN.out hn1 hn2 w w (Below.refl _ w)).mono ?_
  rintro e w1 ⟨g, vs, G, V, rfl, _, hd, hb⟩
  rw [← HR.out] at hd
  have HD1 := Av.mk hd
  have HB1 := Av.mk hb
  clear hd hb
  go_wp2_with fail
  refine (L.new_L a1 a2 n HN.out hn1 hn2 w w1 HB1.out).mono ?_
  rintro e w2 ⟨g2, vs2, G2, V2, rfl, _, hd, hb⟩
  rw [← HR.out] at hd
  have HL2 := Av.mk hd
  have HD2 := Av.mk (HD1.out.grow hb)
  have HM := Av.mk (E.many_D HD2.out)
  generalize w.heap.size = gs at *
  generalize w1.heap.size = gs2 at *
  clear hd hb HD1 HB1 hc1 hc2
  go_wp2_with fail
  refine HM.out.mono ?_
  rintro e _ ⟨rfl, rfl⟩
  clear HM
  have n1 : ¬ ((n : Int) < 1) := by omega
  by_cases hbig : 100 < N
  · go_wp2
    go_ret
    exact ⟨rfl, HD2.out.below⟩
  have hmm := @run_makeMap Try.prog
  go_wp2_with fail
  have HE := Av.mk (show Est w (w2.alloc (.map #[] 0)) n r g gs 0 0 vs G V (fun _ => []) g2 gs2 vs2 G2 V2 (fun _ => []) w2.heap.size (.map []) from
    ⟨HD2.out.grow (below_alloc (Below.refl _ w2) (.map #[] 0)), HL2.out.grow (below_alloc (Below.refl _ w2) (.map #[] 0)), World.ownsMap_made w2 _ _ _, HD2.out.below.size, by simp, by simp⟩)
  have HF0 := Av.mk (show EFit n r 0 (fun _ => []) (.map []) from ⟨by simp, fun _ _ => ⟨by simp; omega, by simp⟩, by simp⟩)
  have HF2 := Av.mk (show LFit n r 0 (fun _ => []) from ⟨by simp, fun _ _ => ⟨by simp; omega, by simp⟩⟩)
  clear HD2 HL2 hmm
  generalize w2.alloc (.map #[] 0) = w3 at *
  generalize w2.heap.size = bm at *
  go_loopw [48] (fun i wr => ∃ (q : Nat) (hits misses : Int) (V : Nat → Value) (Ls : Nat → E.PL) (V2 : Nat → Value) (Ls2 : Nat → L.PL) (D : DataW Int), q ≤ N ∧ i = .int .i64 q ∧ Est w wr n r g gs hits misses vs G V Ls g2 gs2 vs2 G2 V2 Ls2 bm D ∧
    Av (EFit n r q Ls D ∧ LFit n r q Ls2 ∧ 0 ≤ hits ∧ hits ≤ 10 * q ∧ 0 ≤ misses ∧ misses ≤ 10 * q ∧ Maps.size D ≤ q ∧ ∀ k, 0 ≤ atK D (keyS k) 0 ∧ atK D (keyS k) 0 ≤ 4)) (fun i _ => N - (intOf i).toNat)
  case atStart => exact ⟨0, 0, 0, V, _, V2, _, _, Nat.zero_le _, rfl, HE.out, ⟨HF0.out, HF2.out, by omega, by omega, by omega, by omega, by simp [Maps.size], fun k => by rw [atK_not (by simp [Maps.has])]; omega⟩⟩
  case round =>
    obtain ⟨q, hits, misses, V, Ls, V2, Ls2, D, hq, rfl, hs, HI⟩ := hrel
    have HS := Av.mk hs
    clear hs HE HF0 HF2
    by_cases hlt : q < N
    · obtain ⟨b2, off, rfl, hbl, hF⟩ := HA.out (by omega)
      obtain ⟨f0, f1, e0, e1, e2⟩ := hF q hlt
      obtain ⟨⟨nm, ep, li⟩, ha⟩ : ∃ x, x = F q := ⟨_, rfl⟩
      rw [← ha] at f0 f1 e0 e1 e2
      clear hF ha
      simp only at f0 f1 e0 e1 e2
      rw [← HS.out.dc.below.cell (p := ⟨b2, _, none⟩) hbl] at e0 e1 e2
      go_wp2_with fail
      have X1 := Av.mk (Blk.new wr 67 #[.string nm, .int .u8 ep, .bool li])
      have HS1 := Av.mk (HS.out.below (below_alloc (Below.refl _ wr) (.cells #[.string nm, .int .u8 ep, .bool li] 67)))
      clear HS e0 e1 e2
      generalize wr.alloc (.cells #[.string nm, .int .u8 ep, .bool li] 67) = w4 at *
      generalize wr.heap.size = ga at *
      refine (E.right_calls nm w4).mono ?_
      rintro e _ ⟨b, rfl, hb, rfl⟩
      have HNB := Av.mk hb
      clear hb
      cases b
      case false =>
        go_wp2
        go_ret
        exact ⟨rfl, HS1.out.dc.below⟩
      have hnm := HNB.out rfl
      clear HNB
      go_wp2_with fail
      go_loopw [56] (fun i wx => ∃ (t : Nat) (hits' misses' : Int) (Ls' : Nat → E.PL) (Ls2' : Nat → L.PL), t ≤ 5 ∧ i = .int .i64 t ∧ Est w wx n r g gs hits' misses' vs G V Ls' g2 gs2 vs2 G2 V2 Ls2' bm D ∧ Blk wx ga 67 #[.string nm, .int .u8 ep, .bool li] ∧
        Av (EFit n r q Ls' D ∧ LFit n r q Ls2' ∧ 0 ≤ hits' ∧ hits' ≤ 10 * q + t ∧ 0 ≤ misses' ∧ misses' ≤ 10 * q + t)) (fun i _ => 5 - (intOf i).toNat)
      case atStart => exact ⟨0, hits, misses, Ls, Ls2, by omega, rfl, HS1.out, X1.out, ⟨HI.out.1, HI.out.2.1, HI.out.2.2.1, by have := HI.out.2.2.2.1; omega, HI.out.2.2.2.2.1, by have := HI.out.2.2.2.2.2.1; omega⟩⟩
      case round =>
        obtain ⟨wx, rfl⟩ : ∃ wx : World, wx = wr := ⟨_, rfl⟩
        obtain ⟨t, hits', misses', Ls', Ls2', ht, rfl, hs, hx, HJ⟩ := hrel
        have HS := Av.mk hs
        have X2 := Av.mk hx
        have x0 := hx.cell 0
        have x1 := hx.cell 1
        have x2 := hx.cell 2
        have lx := hx.lt
        simp at x0 x1 x2
        clear hs hx HS1 X1
        by_cases hlt5 : t < 5
        · have HLK := Av.mk (est_look HS.out HJ.out.1 (by omega) (by omega) hn2 HJ.out.2.2.1 (by have := HJ.out.2.2.2.1; omega) HJ.out.2.2.2.2.1 (by have := HJ.out.2.2.2.2.2; omega) nm hnm (t : Int) ga _ X2.out)
          go_wp2_with fail
          refine HLK.out.mono ?_
          rintro e w5 ⟨b, y, h5, m5, L5, rfl, hs5, hf5, hc5, hb5, _, _, hx5⟩
          have Y5 := Av.mk (Blk.new w5 76 #[.int .i64 y.ep, .bool y.there, .int .i64 y.kind, .int .i64 y.lev, .int .i64 y.ino, .slice y.A y.n y.c, .string y.tg])
          have HS5 := Av.mk (hs5.below (below_alloc (Below.refl _ w5) (.cells #[.int .i64 y.ep, .bool y.there, .int .i64 y.kind, .int .i64 y.lev, .int .i64 y.ino, .slice y.A y.n y.c, .string y.tg] 76)))
          have X5 := Av.mk (hx5.alloc (.cells #[.int .i64 y.ep, .bool y.there, .int .i64 y.kind, .int .i64 y.lev, .int .i64 y.ino, .slice y.A y.n y.c, .string y.tg] 76))
          have HF5 := Av.mk hf5
          have HC5 := Av.mk hc5
          have HB5 := Av.mk hb5
          clear hs5 hf5 hc5 hb5 hx5 HLK HS X2 x0 x1 x2 lx
          go_upto_region 16 with (fail)
          generalize w5.alloc (.cells #[.int .i64 y.ep, .bool y.there, .int .i64 y.kind, .int .i64 y.lev, .int .i64 y.ino, .slice y.A y.n y.c, .string y.tg] 76) = w6 at *
          generalize w5.heap.size = g5 at *
          have y0 := Y5.out.cell 0; have y1 := Y5.out.cell 1; have y2 := Y5.out.cell 2; have y3 := Y5.out.cell 3; have y4 := Y5.out.cell 4; have y5 := Y5.out.cell 5; have y6 := Y5.out.cell 6; have x0 := X5.out.cell 0; have x1 := X5.out.cell 1; have x2 := X5.out.cell 2
          have ly := Y5.out.lt
          have lx := X5.out.lt
          simp at y0 y1 y2 y3 y4 y5 y6 x0 x1 x2
          have HLL := Av.mk (est_llook HS5.out HJ.out.2.1 (by omega) (by omega) hn2 nm hnm (t : Int) ga _ X5.out)
          cases b
          case' true => (obtain ⟨q1, q2⟩ := HB5.out rfl; rw [q1] at y0; rw [q2] at y6)
          all_goals
            go_wp2_with fail
            refine HLL.out.mono ?_
            rintro e w7 ⟨b2, A7, m7, c7, L7, rfl, hs7, hf7, hb7, hx7⟩
            have HS7 := Av.mk hs7
            have HF7 := Av.mk hf7
            have X7 := Av.mk hx7
            have HB7 := Av.mk hb7
            clear hs7 hf7 hx7 hb7
            cases b2
            case' true => (obtain ⟨rfl, rr, rfl, v1, lr⟩ := HB7.out rfl)
            all_goals
              go_wp2_with fail
              go_roundw
              case rel => exact ⟨t + 1, h5, m5, L5, L7, by omega, by go_num, HS7.out, X7.out, ⟨HF5.out, HF7.out, by have := HC5.out; have := HJ.out.2.2.1; omega, by have := HC5.out; have := HJ.out.2.2.2.1; omega, by have := HC5.out; have := HJ.out.2.2.2.2.1; omega, by have := HC5.out; have := HJ.out.2.2.2.2.2; omega⟩⟩
              case measure => simp [intOf]; omega
        · obtain rfl : t = 5 := by omega
          obtain ⟨e5, he5⟩ : ∃ e5, ep % 5 = e5 := ⟨_, rfl⟩
          have ht5 : Int.tmod ep 5 = e5 := by rw [Int.tmod_eq_emod_of_nonneg f0, he5]
          have h50 : 0 ≤ e5 := by omega
          have h54 : e5 ≤ 4 := by omega
          have hw5 : IntKind.i64.wrap e5 = e5 := wrapI (by omega) (by omega)
          clear he5
          cases li
          case true =>
            have hb83 := below_alloc (Below.refl _ wx) (.cells #[.string nm, .int .i64 e5] 83)
            have HK := Av.mk (est_lkeep (HS.out.below hb83) HJ.out.2.1 (by omega) hr1 (by omega) hn2 nm hnm e5 0 _ _ (L.row_new83 nm e5 0 wx (Nat.zero_le _)))
            clear hb83
            go_wp2_with fail
            refine HK.out.mono ?_
            rintro e w5 ⟨b, V5, L5, rfl, hs5, hf5⟩
            have HS5 := Av.mk hs5
            have HF5 := Av.mk hf5
            clear hs5 hf5 HK HS X2 x0 x1 x2 lx
            go_wp2_with fail
            go_roundw
            case rel => exact ⟨q + 1, hits', misses', V, Ls', V5, L5, D, by omega, by go_num, HS5.out, ⟨HJ.out.1.mono (by omega), HF5.out, HJ.out.2.2.1, by have := HJ.out.2.2.2.1; omega, HJ.out.2.2.2.2.1, by have := HJ.out.2.2.2.2.2; omega, by have := HI.out.2.2.2.2.2.2.1; omega, HI.out.2.2.2.2.2.2.2⟩⟩
            case measure => simp [intOf]; omega
          case false =>
            have hkey := Av.mk (L.key9 (s := nm) (by omega))
            have hz : (zeroValue 5).run Try.prog wx = .ok (.int .u8 0) wx := by kernel_rfl
            have HZ := Av.mk hz
            obtain ⟨old, hold⟩ : ∃ old, atK D (keyS nm) 0 = old := ⟨_, rfl⟩
            obtain ⟨has, hhas⟩ : ∃ b, Maps.has D (keyS nm) = b := ⟨_, rfl⟩
            have ho0 : 0 ≤ old := by rw [← hold]; exact (HI.out.2.2.2.2.2.2.2 nm).1
            have ho4 : old ≤ 4 := by rw [← hold]; exact (HI.out.2.2.2.2.2.2.2 nm).2
            have hwo : IntKind.i64.wrap old = old := wrapI (by omega) (by omega)
            have HOLD := Av.mk hold
            have HHAS := Av.mk hhas
            have HLK := Av.mk (est_look HS.out HJ.out.1 (by omega) (by omega) hn2 HJ.out.2.2.1 (by have := HJ.out.2.2.2.1; omega) HJ.out.2.2.2.2.1 (by have := HJ.out.2.2.2.2.2; omega) nm hnm old ga _ X2.out)
            clear hz hold hhas
            go_wp2_with (first | (at_lookup; refine wpList_look decU (fun c => .int .u8 c) decU_inv rfl _ _ 65 rfl 9 5 L.law9 Try.underlying65 0 HZ.out rfl bm _ D rfl HS.out.map _ _ rfl hkey.out ?_; rw [HOLD.out, HHAS.out]))
            refine HLK.out.mono ?_
            rintro e w5 ⟨b, y, h5, m5, L5, rfl, hs5, hf5, hc5, _, ht5', hm5, hx5⟩
            have HS5 := Av.mk (hs5.below (below_alloc (Below.refl _ w5) (.cells #[.int .i64 y.ep, .bool y.there, .int .i64 y.kind, .int .i64 y.lev, .int .i64 y.ino, .slice y.A y.n y.c, .string y.tg] 76)))
            have X5 := Av.mk (hx5.alloc (.cells #[.int .i64 y.ep, .bool y.there, .int .i64 y.kind, .int .i64 y.lev, .int .i64 y.ino, .slice y.A y.n y.c, .string y.tg] 76))
            have HF5 := Av.mk hf5
            have HC5 := Av.mk hc5
            have HT5 := Av.mk ht5'
            have HM5 := Av.mk hm5
            clear hs5 hf5 hc5 hm5 hx5 ht5' HLK HS X2 x0 x1 x2 lx HZ
            go_upto_region 26 with (fail)
            generalize w5.alloc (.cells #[.int .i64 y.ep, .bool y.there, .int .i64 y.kind, .int .i64 y.lev, .int .i64 y.ino, .slice y.A y.n y.c, .string y.tg] 76) = w6 at *
            generalize w5.heap.size = g5 at *
            have x0 := X5.out.cell 0; have x1 := X5.out.cell 1; have x2 := X5.out.cell 2
            have lx := X5.out.lt
            simp at x0 x1 x2
            have HKP := Av.mk (est_keep HS5.out HF5.out (by omega) hr1 (by omega) hn2 nm hnm e5 ga _ X5.out)
            go_wp2_with fail
            refine HKP.out.mono ?_
            rintro e w7 ⟨b2, V7, L7, rfl, hs7, hf7, hb7, hx7⟩
            have HS7 := Av.mk hs7
            have HF7 := Av.mk hf7
            have HB7 := Av.mk hb7
            have X7 := Av.mk hx7
            clear hs7 hf7 hb7 hx7 HKP HS5 X5 x0 x1 x2 lx
            have x0 := X7.out.cell 0; have x1 := X7.out.cell 1; have x2 := X7.out.cell 2
            have lx := X7.out.lt
            simp at x0 x1 x2
            cases b2
            case true =>
              go_wp2_with (first | (at_mapUpdate; refine wpList_store decU rfl _ _ _ 65 rfl 9 5 L.law9 Try.underlying65 bm _ D rfl HS7.out.map (by have := HI.out.2.2.2.2.2.2.1; unfold maxLen; omega) _ _ _ rfl rfl hkey.out e5 rfl ?_; intro w8 hown8 hturn8; have HO8 := Av.mk hown8; have HT8 := Av.mk hturn8; clear hown8 hturn8))
              have HS8 := Av.mk (HS7.out.byM HO8.out HT8.out)
              have hD : IsMap D := (HS7.out.map.tidy L.law9).isMap
              have htd := HS7.out.map.tidy L.law9
              go_roundw
              case rel => exact ⟨q + 1, h5, m5, V7, L7, V2, Ls2', _, by omega, by go_num, HS8.out, ⟨HF7.out, HJ.out.2.1.mono (by omega), by have := HC5.out; have := HJ.out.2.2.1; omega, by have := HC5.out; have := HJ.out.2.2.2.1; omega, by have := HC5.out; have := HJ.out.2.2.2.2.1; omega, by have := HC5.out; have := HJ.out.2.2.2.2.2; omega,
                by have := HI.out.2.2.2.2.2.2.1; rw [size_put htd]; split <;> omega, fun k => by
                  by_cases ek : k = nm
                  · subst ek; rw [atK_put_same hD (L.isKey_S _)]; omega
                  · rw [atK_put_other (by rw [Ne, L.keyS_inj]; exact ek)]; exact HI.out.2.2.2.2.2.2.2 k⟩⟩
              case measure => simp [intOf]; omega
            case false =>
              obtain ⟨x, hx, hlt5⟩ := HB7.out rfl
              have hent := HJ.out.1.ent _ (shd_lt (by omega) (sl ++ nm)) _ (HM5.out _ _ hx)
              have htg : x.tg = nm := app_inj hent.1.symm
              have h3 := hent.2.2.1
              have h4 := hent.2.2.2
              rw [htg, HHAS.out] at h3
              rw [htg, HOLD.out] at h4
              subst h3
              obtain rfl : b = true := HT5.out x (HM5.out _ _ hx) h4.symm
              have hlo : e5 < old := by rw [h4]; exact hlt5
              have hnle : ¬ old ≤ e5 := by omega
              clear hx hlt5 hent htg h4
              go_wp2_with fail
              go_roundw
              case rel => exact ⟨q + 1, h5, m5, V7, L7, V2, Ls2', D, by omega, by go_num, HS7.out, ⟨HF7.out, HJ.out.2.1.mono (by omega), by have := HC5.out; have := HJ.out.2.2.1; omega, by have := HC5.out; have := HJ.out.2.2.2.1; omega, by have := HC5.out; have := HJ.out.2.2.2.2.1; omega, by have := HC5.out; have := HJ.out.2.2.2.2.2; omega, by have := HI.out.2.2.2.2.2.2.1; omega, HI.out.2.2.2.2.2.2.2⟩⟩
              case measure => simp [intOf]; omega
    · obtain rfl : q = N := by omega
      go_wp2
      go_ret
      exact ⟨rfl, HS.out.dc.below⟩
end Go.Proofs.Ytiopmehaghcpfaa.Ep
