/- WholeRoom: the walk. -/
import Derived.Test.YtiopmehaghcpfaaTopQ
namespace Go.Proofs.Ytiopmehaghcpfaa
open Go.RowKit Go.Maps
attribute [local go_sem ↓] run_max_int run_min_int

theorem Shb.congr {w : World} {b g n : Nat} {v : Value} {G G' : Nat → Nat} (h : Shb w b g n v G) (e : ∀ j, j < n → G' j = G j) : Shb w b g n v G' := by
  refine ⟨h.blk, ?_⟩
  have : ((List.range n).map fun i => Value.pointer (some ⟨G' i, 0, none⟩)) = (List.range n).map fun i => Value.pointer (some ⟨G i, 0, none⟩) :=
    List.map_congr_left (fun j hj => by rw [e j (List.mem_range.1 hj)])
  rw [this]
  exact h.row
section
variable {w0 w : World} {n : Nat} {r2 : Int} {g8 g9 g0 : Nat} {v8 v9 : Value} {G : Nat → Nat} {V : Nat → Value} {Ls : Nat → PL} {l' : PL} {k : ByteArray} {x : Int} {gone : ByteArray} {is : Bool}
theorem RR_lo (n : Nat) (r2 : Int) (i : Nat) (h : i < 1 + n) : RR n r2 i = 300 := if_pos h
theorem RR_hi (n : Nat) (r2 : Int) (i : Nat) (h : ¬ i < 1 + n) : RR n r2 i = r2 := if_neg h
theorem Bst.cput (h : Bst w0 w n r2 g8 g9 v8 v9 G V Ls) (hG : G 0 = g0) (hP : PutIs 300 (Ls 0) k x l' gone is) :
    Calls Try.prog 21 #[.pointer (some ⟨g0, 0, none⟩), .string k, .int .i64 x] w (Res (.tuple #[.string gone, .bool is]) (fun w' => ∃ V', Bst w0 w' n r2 g8 g9 v8 v9 G V' (up Ls 0 l'))) := by
  subst hG
  have hl := h.fam.lru 0 (by omega)
  rw [RR_lo n r2 0 (by omega)] at hl
  exact (hP w _ _ _ hl (h.fam.ge 0 (by omega))).mono fun e w' hp => h.put (by omega) (by rw [RR_lo n r2 0 (by omega)]; exact hp)
theorem Bst.put8 (h : Bst w0 w n r2 g8 g9 v8 v9 G V Ls) (hn0 : 0 < n) (hn1 : n ≤ 256) (hk : k.size ≤ 9000000000000000000) (hP : PutIs 300 (Ls (1 + shd n k)) k x l' gone is) :
    Calls Try.prog 22 #[.pointer (some ⟨g8, 0, none⟩), .string k, .int .i64 x] w (Res (.tuple #[.string gone, .bool is]) (fun w' => ∃ V', Bst w0 w' n r2 g8 g9 v8 v9 G V' (up Ls (1 + shd n k) l'))) := by
  have hj := shd_lt hn0 k
  have hl := h.fam.lru (1 + shd n k) (by omega)
  rw [RR_lo n r2 _ (by omega)] at hl
  exact (sput_calls g8 g8 n v8 _ k x w h.s8 hn0 hn1 hk w0.heap.size _ 300 _ _ l' gone is hl (h.fam.ge _ (by omega)) rfl hP).mono fun e w' hp => h.put (by omega) (by rw [RR_lo n r2 _ (by omega)]; exact hp)
theorem Bst.put9 (h : Bst w0 w n r2 g8 g9 v8 v9 G V Ls) (hn0 : 0 < n) (hn1 : n ≤ 256) (hk : k.size ≤ 9000000000000000000) (hP : PutIs r2 (Ls (1 + n + shd n k)) k x l' gone is) :
    Calls Try.prog 22 #[.pointer (some ⟨g9, 0, none⟩), .string k, .int .i64 x] w (Res (.tuple #[.string gone, .bool is]) (fun w' => ∃ V', Bst w0 w' n r2 g8 g9 v8 v9 G V' (up Ls (1 + n + shd n k) l'))) := by
  have hj := shd_lt hn0 k
  have hl := h.fam.lru (1 + n + shd n k) (by omega)
  rw [RR_hi n r2 _ (by omega)] at hl
  exact (sput_calls g9 g9 n v9 _ k x w h.s9 hn0 hn1 hk w0.heap.size _ r2 _ _ l' gone is hl (h.fam.ge _ (by omega)) rfl hP).mono fun e w' hp => h.put (by omega) (by rw [RR_hi n r2 _ (by omega)]; exact hp)
theorem Bst.cget {ok : Bool} (h : Bst w0 w n r2 g8 g9 v8 v9 G V Ls) (hG : G 0 = g0) (hP : GetIs 300 (Ls 0) k l' x ok) :
    Calls Try.prog 23 #[.pointer (some ⟨g0, 0, none⟩), .string k] w (Res (.tuple #[.int .i64 x, .bool ok]) (fun w' => Bst w0 w' n r2 g8 g9 v8 v9 G V (up Ls 0 l'))) := by
  subst hG
  have hl := h.fam.lru 0 (by omega)
  rw [RR_lo n r2 0 (by omega)] at hl
  exact (hP w _ _ _ hl).mono fun e w' hp => h.get (by omega) (by rw [RR_lo n r2 0 (by omega)]; exact hp)
theorem Bst.get8 {ok : Bool} (h : Bst w0 w n r2 g8 g9 v8 v9 G V Ls) (hn0 : 0 < n) (hn1 : n ≤ 256) (hk : k.size ≤ 9000000000000000000) (hP : GetIs 300 (Ls (1 + shd n k)) k l' x ok) :
    Calls Try.prog 24 #[.pointer (some ⟨g8, 0, none⟩), .string k] w (Res (.tuple #[.int .i64 x, .bool ok]) (fun w' => Bst w0 w' n r2 g8 g9 v8 v9 G V (up Ls (1 + shd n k) l'))) := by
  have hj := shd_lt hn0 k
  have hl := h.fam.lru (1 + shd n k) (by omega)
  rw [RR_lo n r2 _ (by omega)] at hl
  exact (sget_calls g8 g8 n v8 _ k w h.s8 hn0 hn1 hk w0.heap.size _ 300 _ _ l' x ok hl rfl hP).mono fun e w' hp => h.get (by omega) (by rw [RR_lo n r2 _ (by omega)]; exact hp)
theorem Bst.get9 {ok : Bool} (h : Bst w0 w n r2 g8 g9 v8 v9 G V Ls) (hn0 : 0 < n) (hn1 : n ≤ 256) (hk : k.size ≤ 9000000000000000000) (hP : GetIs r2 (Ls (1 + n + shd n k)) k l' x ok) :
    Calls Try.prog 24 #[.pointer (some ⟨g9, 0, none⟩), .string k] w (Res (.tuple #[.int .i64 x, .bool ok]) (fun w' => Bst w0 w' n r2 g8 g9 v8 v9 G V (up Ls (1 + n + shd n k) l'))) := by
  have hj := shd_lt hn0 k
  have hl := h.fam.lru (1 + n + shd n k) (by omega)
  rw [RR_hi n r2 _ (by omega)] at hl
  exact (sget_calls g9 g9 n v9 _ k w h.s9 hn0 hn1 hk w0.heap.size _ r2 _ _ l' x ok hl rfl hP).mono fun e w' hp => h.get (by omega) (by rw [RR_hi n r2 _ (by omega)]; exact hp)
end

theorem total_congr (A B : Nat → Nat) (m : Nat) (h : ∀ j, j < m → A j = B j) : total A m = total B m := by
  induction m with
  | zero => rfl
  | succ m ih => simp only [total]; rw [ih (fun j hj => h j (by omega)), h m (by omega)]

set_option maxRecDepth 100000 in
set_option maxHeartbeats 4000000 in
theorem top_walk (A : Option Addr) (N c : Nat) (F : Nat → ByteArray) (b1 b2 : Int) (w : World) (hA : SArg w A N F) (h10 : 0 ≤ b1) (h11 : b1 ≤ 255) (h20 : 0 ≤ b2) (h21 : b2 ≤ 255) :
    Calls Try.prog 4 #[.slice A N c, .int .u8 b1, .int .u8 b2] w (RetB (.bool true) w) := by
  obtain ⟨n, hn, hn1, hn2⟩ : ∃ n : Nat, mn (mx b1 1) 256 = (n : Int) ∧ 1 ≤ n ∧ n ≤ 256 := by
    refine ⟨(mn (mx b1 1) 256).toNat, ?_, ?_, ?_⟩ <;> (unfold mn mx; split <;> split <;> omega)
  obtain ⟨r2, hr2, hr21, hr22⟩ : ∃ r2 : Int, r2 = mx b2 1 ∧ 1 ≤ r2 ∧ r2 ≤ 255 := ⟨_, rfl, by unfold mx; split <;> omega, by unfold mx; split <;> omega⟩
  have HN := Av.mk hn
  have HR := Av.mk hr2
  have HA := Av.mk hA
  clear hn hr2 hA
  go_enter Try.func4, Try.ntmps4
  go_wp2_with fail
  refine (new_S 300 w).mono ?_
  rintro e w1 ⟨rfl, hl1, hb1⟩
  have HL1 := Av.mk (show LruS w1 w.heap.size w.heap.size 300 (.slice none 0 0) [] from hl1)
  have HB1 := Av.mk hb1
  clear hl1 hb1
  go_wp2_with fail
  refine (room_S w.heap.size w.heap.size 300 _ [] w1 HL1.out).mono ?_
  rintro e _ ⟨rfl, rfl⟩
  by_cases hbig : 200 < N
  · go_wp2
    go_ret
    exact ⟨rfl, HB1.out⟩
  have HF1 := Av.mk (show Fam w1 w.heap.size 1 (fun _ => 300) (fun _ => w.heap.size) (fun _ => .slice none 0 0) (fun _ => []) from
    ((Fam.nil w w.heap.size (fun _ => 300) (fun _ => w.heap.size) (fun _ => .slice none 0 0) (fun _ => [])).new rfl (Nat.le_refl _) HL1.out HB1.out).congr (fun i hi => by
      obtain rfl : i = 0 := by omega
      exact ⟨rfl, rfl, rfl, rfl⟩))
  clear HL1
  go_wp2_with fail
  refine (snew_calls b1 300 n HN.out hn1 hn2 w.heap.size 1 _ _ _ _ w1 HF1.out HB1.out.size).mono ?_
  rintro e w2 ⟨v8, G1, V1, rfl, hb2, hS8, hF2, hE1⟩
  have HS8 := Av.mk hS8
  have HF2 := Av.mk hF2
  have HE1 := Av.mk hE1
  have HB2 := Av.mk (below_then HB1.out HB1.out.size hb2)
  have hlt8 := hS8.blk.lt
  have hg8 : w.heap.size ≤ w1.heap.size := HB1.out.size
  clear hS8 hF2 hE1 hb2 HB1 HF1
  generalize w1.heap.size = g8 at *
  go_wp2_with fail
  refine (snew_calls b1 b2 n HN.out hn1 hn2 w.heap.size (1 + n) _ _ _ _ w2 HF2.out HB2.out.size).mono ?_
  rintro e w3 ⟨v9, G, V, rfl, hb3, hS9, hF3, hE2⟩
  have HB := Av.mk (show Bst w w3 n r2 g8 w2.heap.size v8 v9 G V (fun _ => []) from
    ⟨hF3.congr (fun i hi => ⟨by
        unfold RR joinF
        by_cases h : i < 1 + n
        · rw [if_pos h, if_pos h]; split <;> rfl
        · rw [if_neg h, if_neg h, HR.out], rfl, rfl, by unfold joinF; split <;> (try split) <;> rfl⟩),
      (HS8.out.below hb3).congr (fun j hj => (hE2 (1 + j) (by omega)).1), hS9, below_then HB2.out HB2.out.size hb3⟩)
  have hG0 : G 0 = w.heap.size := by rw [(hE2 0 (by omega)).1]; exact (HE1.out 0 (by omega)).1
  clear hb3 hS9 hF3 hE2 HS8 HF2 HE1 HB2
  generalize w2.heap.size = g9 at *
  go_wp2_with fail
  go_loopw [47] (fun i wr => ∃ (k : Nat) (V : Nat → Value) (Ls : Nat → PL), k ≤ N ∧ i = .int .i64 k ∧ Bst w wr n r2 g8 g9 v8 v9 G V Ls ∧ Rel n r2 Ls ∧ (Ls 0).length ≤ k ∧ Av (∀ i, i < k → (F i).size ≤ 100 ∧ F i ∈ (Ls 0).map (·.1))) (fun i _ => N - (intOf i).toNat)
  case atStart => exact ⟨0, V, fun _ => [], Nat.zero_le _, rfl, HB.out, ⟨by simp, fun j hj => by simp [part], fun j hj => ⟨by simp, by simp; omega, by simp⟩⟩, Nat.le_refl _, ⟨fun i hi => by omega⟩⟩
  case round =>
    obtain ⟨k, V, Ls, hk, rfl, hb, hrl, hlen, HK⟩ := hrel
    have HB2 := Av.mk hb
    have HRL := Av.mk hrl
    clear hb hrl HB
    by_cases hlt : k < N
    · obtain ⟨b, off, rfl, hbl, hF⟩ := HA.out (by omega)
      obtain ⟨f0, e0⟩ := hF k hlt
      obtain ⟨key, hkey⟩ : ∃ key, key = F k := ⟨_, rfl⟩
      rw [← hkey] at e0 f0
      rw [← HB2.out.below.cell (p := ⟨b, _, none⟩) hbl] at e0
      clear hF
      have HKEY := Av.mk hkey
      clear hkey
      by_cases hsz : 100 < key.size
      · have HBE := Av.mk HB2.out.below
        go_wp2_with fail
        go_ret
        exact ⟨rfl, HBE.out⟩
      · have hj := shd_lt (show 0 < n by omega) key
        have HP0 := Av.mk (putIs_fits 300 (Ls 0) key k HRL.out.nd (by omega) (by omega))
        have hl1 := part_len n (Ls 0) (shd n key)
        have HP1 := Av.mk (putIs_fits 300 (Ls (1 + shd n key)) key k (by rw [HRL.out.p8 _ hj]; exact part_nodup _ _ _ HRL.out.nd) (by rw [HRL.out.p8 _ hj]; omega) (by rw [HRL.out.p8 _ hj]; omega))
        have h9 := HRL.out.p9 _ hj
        obtain ⟨l2, gone2, is2, hP2, nd2, len2, _, mem2⟩ := putIs_any r2 (Ls (1 + n + shd n key)) key k h9.1 (by omega) h9.2.1 hr21
        have HP2 := Av.mk hP2
        have HR2 := Av.mk (HRL.out.step (by omega) key k l2 nd2 len2 mem2)
        have hul := useL_len key k (Ls 0)
        clear hP2 nd2 len2 mem2 h9
        go_wp2_with fail
        refine (HB2.out.cput hG0 HP0.out).mono ?_
        rintro e w4 ⟨rfl, V4, hb4⟩
        have HB4 := Av.mk hb4
        clear hb4 HB2
        go_wp2_with fail
        refine (HB4.out.put8 (x := k) (l' := useL key k (Ls (1 + shd n key))) (by omega) hn2 (by omega) (by rw [up_other _ _ _ (by omega)]; exact HP1.out)).mono ?_
        rintro e w5 ⟨rfl, V5, hb5⟩
        have HB5 := Av.mk hb5
        clear hb5 HB4
        go_wp2_with fail
        refine (HB5.out.put9 (x := k) (l' := l2) (by omega) hn2 (by omega) (by rw [up_other _ _ _ (by omega), up_other _ _ _ (by omega)]; exact HP2.out)).mono ?_
        rintro e w6 ⟨rfl, V6, hb6⟩
        have HB6 := Av.mk hb6
        clear hb6 HB5 HP0 HP1 HP2
        go_wp2_with fail
        go_roundw
        case rel =>
          refine ⟨k + 1, V6, _, by omega, by go_num, HB6.out, HR2.out, ?_, ⟨fun i hi => ?_⟩⟩
          · rw [up_other _ _ _ (by omega), up_other _ _ _ (by omega), up_same]; omega
          · rw [up_other _ _ _ (by omega), up_other _ _ _ (by omega), up_same, mem_keys_use]
            by_cases e : i = k
            · subst e
              rw [← HKEY.out]
              exact ⟨by omega, .inl rfl⟩
            · have := HK.out i (by omega)
              exact ⟨this.1, .inr this.2⟩
        case measure => simp [intOf]; omega
    · obtain rfl : k = N := by omega
      go_wp2_with fail
      go_loopw [80] (fun i wx => ∃ (q : Nat) (Ls : Nat → PL), q ≤ k ∧ i = .int .i64 q ∧ Bst w wx n r2 g8 g9 v8 v9 G V Ls ∧ Rel n r2 Ls ∧ (Ls 0).length ≤ 200 ∧ Av (∀ i, i < k → (F i).size ≤ 100 ∧ F i ∈ (Ls 0).map (·.1))) (fun i _ => k - (intOf i).toNat)
      case atStart => exact ⟨0, Ls, Nat.zero_le _, rfl, HB2.out, HRL.out, by omega, HK⟩
      case round =>
        obtain ⟨wx, rfl⟩ : ∃ wx : World, wx = wr := ⟨_, rfl⟩
        clear HB2 HRL HK hlen
        obtain ⟨q, Ls, hq, rfl, hb, hrl, hlen, HK⟩ := hrel
        have HB2 := Av.mk hb
        have HRL := Av.mk hrl
        clear hb hrl
        by_cases hlt : q < k
        · obtain ⟨b, off, rfl, hbl, hF⟩ := HA.out (by omega)
          obtain ⟨_, e0⟩ := hF q hlt
          have hkm := HK.out q hlt
          generalize F q = key at e0 hkm
          obtain ⟨hsz, hmem⟩ := hkm
          rw [← HB2.out.below.cell (p := ⟨b, _, none⟩) hbl] at e0
          clear hF
          obtain ⟨⟨key', x⟩, hpx, hpe⟩ := List.mem_map.1 hmem
          obtain rfl : key' = key := hpe
          have hj := shd_lt (show 0 < n by omega) key'
          have HP0 := Av.mk (getIs_hit 300 (Ls 0) key' x HRL.out.nd (by omega) hpx)
          have hl1 := part_len n (Ls 0) (shd n key')
          have HP1 := Av.mk (getIs_hit 300 (Ls (1 + shd n key')) key' x (by rw [HRL.out.p8 _ hj]; exact part_nodup _ _ _ HRL.out.nd) (by rw [HRL.out.p8 _ hj]; omega) (by rw [HRL.out.p8 _ hj]; unfold part; rw [List.mem_filter]; exact ⟨hpx, by simp⟩))
          have h9 := HRL.out.p9 _ hj
          obtain ⟨l2, x2, ok2, hP2, nd2, len2, mem2, hit2⟩ := getIs_any r2 (Ls (1 + n + shd n key')) key' h9.1 (by omega)
          have HP2 := Av.mk hP2
          have HX := Av.mk (show ok2 = true → x2 = x from fun h => by
            have h3 := (h9.2.2 _ (hit2 h)).1
            have h4 := getIs_hit.key_one _ HRL.out.nd h3 hpx rfl
            exact (Prod.mk.injEq _ _ _ _ ▸ h4).2)
          have HR2 := Av.mk (HRL.out.step (by omega) key' x l2 nd2 (by omega) (fun p hp => by
            have hp2 := mem2 p hp
            by_cases e : p.1 = key'
            · exact .inl (getIs_hit.key_one _ HRL.out.nd (h9.2.2 _ hp2).1 hpx e)
            · exact .inr ⟨hp2, e⟩))
          have hul := len_use_hit (Ls 0) (key', x) HRL.out.nd (by rw [keyAt_lt]; exact hmem)
          have HUL := Av.mk (show (useL key' x (Ls 0)).length ≤ 200 from by have h2 : (useL key' x (Ls 0)).length = (Ls 0).length := hul; omega)
          have HKM := Av.mk hmem
          clear hP2 nd2 len2 mem2 h9 hit2 hul hpx hmem
          go_wp2_with fail
          refine (HB2.out.cget hG0 HP0.out).mono ?_
          rintro e w4 ⟨rfl, hb4⟩
          have HB4 := Av.mk hb4
          clear hb4 HB2
          go_wp2_with fail
          refine (HB4.out.get8 (l' := useL key' x (Ls (1 + shd n key'))) (by omega) hn2 (by omega) (by rw [up_other _ _ _ (by omega)]; exact HP1.out)).mono ?_
          rintro e w5 ⟨rfl, hb5⟩
          have HB5 := Av.mk hb5
          clear hb5 HB4
          go_wp2_with fail
          refine (HB5.out.get9 (l' := l2) (by omega) hn2 (by omega) (by rw [up_other _ _ _ (by omega), up_other _ _ _ (by omega)]; exact HP2.out)).mono ?_
          rintro e w6 ⟨rfl, hb6⟩
          have HB6 := Av.mk hb6
          clear hb6 HB5 HP0 HP1 HP2
          have HREL := Av.mk (show (up (up (up Ls 0 (useL key' x (Ls 0))) (1 + shd n key') (useL key' x (Ls (1 + shd n key')))) (1 + n + shd n key') l2) 0 = useL key' x (Ls 0) from by
            rw [up_other _ _ _ (by omega), up_other _ _ _ (by omega), up_same])
          cases ok2
          · clear HX
            go_wp2_with fail
            go_roundw
            case rel =>
              refine ⟨q + 1, _, by omega, by go_num, HB6.out, HR2.out, by rw [HREL.out]; exact HUL.out, ⟨fun i hi => ?_⟩⟩
              rw [HREL.out, mem_keys_use]
              exact ⟨(HK.out i hi).1, .inr (HK.out i hi).2⟩
            case measure => simp [intOf]; omega
          · obtain rfl : x2 = x := HX.out rfl
            go_wp2_with fail
            go_roundw
            case rel =>
              refine ⟨q + 1, _, by omega, by go_num, HB6.out, HR2.out, by rw [HREL.out]; exact HUL.out, ⟨fun i hi => ?_⟩⟩
              rw [HREL.out, mem_keys_use]
              exact ⟨(HK.out i hi).1, .inr (HK.out i hi).2⟩
            case measure => simp [intOf]; omega
        · obtain rfl : q = k := by omega
          go_wp2_with fail
          refine (many_calls g8 g8 n v8 _ wx HB2.out.s8).mono ?_
          rintro e _ ⟨rfl, rfl⟩
          go_wp2_with fail
          have HTL := Av.mk (show ∀ q, q ≤ n → total (fun j => (Ls (1 + j)).length) q ≤ 200 from total_le _ _ n (by
            rw [total_congr _ (fun j => (part n (Ls 0) j).length) n (fun j hj => by rw [HRL.out.p8 j hj]), total_parts n (by omega)]; exact hlen))
          have HTE := Av.mk (show total (fun j => (Ls (1 + j)).length) n = (Ls 0).length from by
            rw [total_congr _ (fun j => (part n (Ls 0) j).length) n (fun j hj => by rw [HRL.out.p8 j hj]), total_parts n (by omega)])
          go_loop [24, 124] (fun t i => ∃ (z : Nat), z ≤ n ∧ i = .int .i64 z ∧ t = .int .i64 (total (fun j => (Ls (1 + j)).length) z)) (fun _ i => n - (intOf i).toNat)
          case atStart => exact ⟨0, Nat.zero_le _, rfl, rfl⟩
          case round =>
            obtain ⟨z, hz, rfl, rfl⟩ := hrel
            by_cases hzl : z < n
            · have ht1 := HTL.out z hz
              have ht2 := HTL.out (z + 1) hzl
              simp only [total] at ht2
              go_wp2_with fail
              refine (slen_calls g8 g8 n v8 1 _ _ _ G V Ls z wx HB2.out.s8 HB2.out.fam (by omega) hzl).mono ?_
              rintro e _ ⟨rfl, rfl⟩
              go_wp2_with fail
              go_round
              case rel => exact ⟨z + 1, by omega, by go_num, by simp [total]⟩
              case measure => simp [intOf]; omega
            · obtain rfl : z = n := by omega
              have hl0 := HB2.out.fam.lru 0 (by omega)
              rw [hG0] at hl0
              have HL0 := Av.mk hl0
              clear hl0
              have hmst := most_le (fun j => (Ls (1 + z + j)).length) r2.toNat z (fun i hi => by have := (HRL.out.p9 i hi).2.1; omega)
              have hmx : mx b2 1 = r2 := HR.out.symm
              have hte := HTE.out
              go_wp2_with fail
              refine (len_S _ _ _ _ _ wx HL0.out).mono ?_
              rintro e _ ⟨rfl, rfl⟩
              go_wp2_with fail
              refine (most_calls g9 g9 z v9 (1 + z) _ _ _ G V Ls wx HB2.out.s9 HB2.out.fam (by omega) hn2).mono ?_
              rintro e _ ⟨rfl, rfl⟩
              have HBE := Av.mk HB2.out.below
              go_wp2
              go_ret
              have hle : ((most (fun j => (Ls (1 + z + j)).length) z : Nat) : Int) ≤ r2 := by omega
              exact ⟨by simp [hle], HBE.out⟩
end Go.Proofs.Ytiopmehaghcpfaa
