/- CursorRoom: the walk. -/
import Derived.Test.YtjehcdedljckbaaSpk
namespace Go.Proofs.Ytjehcdedljckbaa
open Go.RowKit Go.Maps
attribute [local go_sem ↓] run_max_int run_min_int

/-- Just the numbers a+1 .. b are keys. -/
structure Rng (D : DataW Cr) (a b : Nat) : Prop where
  has : ∀ j : Int, Maps.has D (iOf j) = decide ((a : Int) < j ∧ j ≤ b)
  size : Maps.size D + a = b
theorem Rng.nil : Rng (.map []) 0 0 := ⟨fun j => by rw [has_nil]; symm; simp, rfl⟩
theorem Rng.put {D : DataW Cr} {a b : Nat} (h : Rng D a b) (ht : Tidy D) (d : DataW Cr) : Rng (D.put (iOf ((b : Int) + 1)) d) a (b + 1) := by
  refine ⟨fun j => ?_, ?_⟩
  · by_cases e : j = (b : Int) + 1
    · subst e
      rw [has_put_same ht.isMap (isKey_iOf _)]
      have := h.size
      symm; simp; omega
    · rw [has_put_other (by rw [Ne, iOf_inj]; exact e), h.has j]
      congr 1
      apply propext
      push_cast
      omega
  · rw [size_put ht, h.has]
    have := h.size
    rw [if_neg (by simp; omega)]
    omega
theorem Rng.del {D : DataW Cr} {a b : Nat} (h : Rng D a b) (ht : Tidy D) (hab : a < b) : Rng (D.del (iOf ((a : Int) + 1))) (a + 1) b := by
  refine ⟨fun j => ?_, ?_⟩
  · by_cases e : j = (a : Int) + 1
    · subst e
      rw [has_del_same]
      symm; simp
    · rw [has_del_other (by rw [Ne, iOf_inj]; exact e), h.has j]
      congr 1
      apply propext
      push_cast
      omega
  · have h1 := size_del (k := iOf ((a : Int) + 1)) ht
    rw [h.has, if_pos (by simp; omega)] at h1
    have := h.size
    omega

def TabR (w : World) (g : Nat) (room : Int) (bm : Nat) (a b : Nat) : Prop := ∃ D, Tab w g room b bm (Maps.size D) D ∧ Rng D a b
theorem TabR.of {w : World} {g : Nat} {room next : Int} {bm n a b : Nat} {D : DataW Cr} (h : Tab w g room next bm n D) (hn : next = b) (hr : Rng D a b) : TabR w g room bm a b := by
  subst hn
  exact ⟨D, ⟨h.blk, ownsMap_tight h.map⟩, hr⟩
theorem TabR.keep {w w' : World} {g : Nat} {room : Int} {bm a b : Nat} (h : TabR w g room bm a b) (hb : Below w.heap.size w w') : TabR w' g room bm a b := by
  obtain ⟨D, h, hr⟩ := h
  exact ⟨D, h.keep (Keep.of_below (S := fun _ => False) hb) (by simp) (by simp), hr⟩

def TabRP (v : Value) (g : Nat) (room : Int) (bm a b : Nat) (w : World) (e : Ending) (w' : World) : Prop :=
  e = .returned v ∧ TabR w' g room bm a b ∧ Keep (fun k => k = g ∨ k = bm) w w'

theorem openR (g : Nat) (room : Int) (bm a b : Nat) (ep : Int) (dir : ByteArray) (w : World) (h : TabR w g room bm a b) (hb : b < 100000) (hf : (b : Int) - a < room) :
    Calls Try.prog 8 #[.pointer (some ⟨g, 0, none⟩), .int .i64 ep, .string dir] w (TabRP (.tuple #[.int .i64 ((b : Int) + 1), .int .i64 0]) g room bm a (b + 1) w) := by
  obtain ⟨D, h, hr⟩ := h
  have := hr.size
  refine (Open_yes g room b bm _ D ep dir w h (by unfold maxLen; omega) (by omega) (by omega) (by omega)).mono ?_
  rintro e w' ⟨rfl, h', k⟩
  exact ⟨rfl, TabR.of h' (by push_cast; rfl) (hr.put (h.map.tidy law3) _), k⟩
theorem fullR (g : Nat) (room : Int) (bm a b : Nat) (ep : Int) (dir : ByteArray) (w : World) (h : TabR w g room bm a b) (hf : room ≤ (b : Int) - a) :
    Calls Try.prog 8 #[.pointer (some ⟨g, 0, none⟩), .int .i64 ep, .string dir] w (RetB (.tuple #[.int .i64 0, .int .i64 7]) w) := by
  obtain ⟨D, h, hr⟩ := h
  have := hr.size
  exact Open_no g room b bm _ D ep dir w h (by omega)
theorem closeR (g : Nat) (room : Int) (bm a b : Nat) (w : World) (h : TabR w g room bm a b) (hab : a < b) (hb : b < 100000) :
    Calls Try.prog 9 #[.pointer (some ⟨g, 0, none⟩), .int .i64 ((a : Int) + 1)] w (TabRP (.int .i64 0) g room bm (a + 1) b w) := by
  obtain ⟨D, h, hr⟩ := h
  refine (Close_yes g room b bm _ D ((a : Int) + 1) w h (wf64 (by omega) (by omega)) (by rw [hr.has]; simp; omega)).mono ?_
  rintro e w' ⟨rfl, h', k⟩
  exact ⟨rfl, TabR.of h' rfl (hr.del (h.map.tidy law3) hab), k⟩
theorem lenR (g : Nat) (room : Int) (bm a b : Nat) (w : World) (h : TabR w g room bm a b) :
    Calls Try.prog 10 #[.pointer (some ⟨g, 0, none⟩)] w fun e w' => e = .returned (.int .i64 ((b : Int) - a)) ∧ w = w' := by
  obtain ⟨D, h, hr⟩ := h
  have := hr.size
  refine (Len_calls g room b bm _ D w h).mono ?_
  rintro e w' ⟨rfl, rfl⟩
  exact ⟨by rw [show ((b : Int) - a) = (Maps.size D : Int) from by omega], rfl⟩

set_option maxHeartbeats 1000000 in
theorem room_walk (room : Int) (shut : Int) (hs0 : 0 ≤ shut) (hs1 : shut ≤ 255) (w : World) :
    Calls Try.prog 3 #[.int .i64 room, .int .u8 shut] w (RetB (.bool true) w) := by
  obtain ⟨N, hN, h1, h2⟩ : ∃ N : Nat, mn (mx room 1) 1024 = (N : Int) ∧ 1 ≤ N ∧ N ≤ 1024 := by
    refine ⟨(mn (mx room 1) 1024).toNat, ?_, ?_, ?_⟩ <;> (unfold mn mx; split <;> split <;> omega)
  obtain ⟨M, hM, hMN⟩ : ∃ M : Nat, mn shut N = (M : Int) ∧ M ≤ N := by
    refine ⟨(mn shut N).toNat, ?_, ?_⟩ <;> (unfold mn; split <;> omega)
  have HN := Av.mk hN
  have HM := Av.mk hM
  clear hN hM
  go_enter Try.func3, Try.ntmps3
  go_wp2_with fail
  refine (speaks_calls w).mono ?_
  rintro e w1 ⟨rfl, hb1⟩
  have HB1 := Av.mk hb1
  clear hb1
  go_wp2_with fail
  refine (New_calls room w1).mono ?_
  rintro e w2 ⟨g, bm, rfl, hg, hbm, ht, hb2⟩
  have hg' : w.heap.size ≤ g := Nat.le_trans HB1.out.size hg
  have hbm' : w.heap.size ≤ bm := Nat.le_trans HB1.out.size hbm
  have HT := Av.mk (show TabR w2 g N bm 0 0 from TabR.of (by rw [← HN.out]; exact ht) rfl Rng.nil)
  have HB := Av.mk (below_then HB1.out HB1.out.size hb2)
  clear hb2 ht HB1 hg hbm
  go_wp2_with fail
  rw [HN.out]
  go_wp2_with fail
  go_loopw [27] (fun i wr => ∃ k : Nat, k ≤ N ∧ i = .int .i64 k ∧ TabR wr g N bm 0 k ∧ Below w.heap.size w wr) (fun i _ => N - (intOf i).toNat)
  case atStart => exact ⟨0, Nat.zero_le _, rfl, HT.out, HB.out⟩
  case round =>
    obtain ⟨k, hk, rfl, ht, hb⟩ := hrel
    have HT2 := Av.mk ht
    have HB2 := Av.mk hb
    clear ht hb
    by_cases hlt : k < N
    · go_wp2_with fail
      refine (openR g N bm 0 k _ _ _ HT2.out (by omega) (by omega)).mono ?_
      rintro e w3 ⟨rfl, h3, k3⟩
      have H3 := Av.mk h3
      have HB3 := Av.mk (below_keep HB2.out HB2.out.size k3 (by rintro k (rfl | rfl) <;> assumption))
      clear h3 k3
      go_wp2_with fail
      go_roundw
      case rel => exact ⟨k + 1, by omega, by go_num, H3.out, HB3.out⟩
      case measure => simp [intOf]; omega
    · obtain rfl : k = N := by omega
      go_wp2_with fail
      refine (fullR g k bm 0 k _ _ _ HT2.out (by omega)).mono ?_
      rintro e w3 ⟨rfl, hb⟩
      have H3 := Av.mk (HT2.out.keep hb)
      have HB3 := Av.mk (below_then HB2.out HB2.out.size hb)
      clear hb HT2 HB2 HT HB
      go_wp2_with fail
      rw [HM.out]
      go_wp2_with fail
      go_loopw [57] (fun i wr => ∃ j : Nat, j ≤ M ∧ i = .int .i64 j ∧ TabR wr g k bm j k ∧ Below w.heap.size w wr) (fun i _ => M - (intOf i).toNat)
      case atStart => exact ⟨0, Nat.zero_le _, rfl, H3.out, HB3.out⟩
      case round =>
        obtain ⟨j, hj, rfl, ht, hb⟩ := hrel
        have HT2 := Av.mk ht
        have HB2 := Av.mk hb
        clear ht hb
        by_cases hlt : j < M
        · go_wp2_with fail
          refine (closeR g k bm j k _ HT2.out (by omega) (by omega)).mono ?_
          rintro e w4 ⟨rfl, h4, k4⟩
          have H4 := Av.mk h4
          have HB4 := Av.mk (below_keep HB2.out HB2.out.size k4 (by rintro k (rfl | rfl) <;> assumption))
          clear h4 k4
          go_wp2_with fail
          go_roundw
          case rel => exact ⟨j + 1, by omega, by go_num, H4.out, HB4.out⟩
          case measure => simp [intOf]; omega
        · obtain rfl : j = M := by omega
          go_wp2_with fail
          go_loopw [67] (fun i wr => ∃ l : Nat, l ≤ j ∧ i = .int .i64 l ∧ TabR wr g k bm j (k + l) ∧ Below w.heap.size w wr) (fun i _ => j - (intOf i).toNat)
          case atStart => exact ⟨0, Nat.zero_le _, rfl, HT2.out, HB2.out⟩
          case round =>
            obtain ⟨l, hl, rfl, ht, hb⟩ := hrel
            have HT5 := Av.mk ht
            have HB5 := Av.mk hb
            clear ht hb
            by_cases hlt : l < j
            · go_wp2_with fail
              refine (openR g k bm j (k + l) _ _ _ HT5.out (by omega) (by omega)).mono ?_
              rintro e w6 ⟨rfl, h6, k6⟩
              have H6 := Av.mk h6
              have HB6 := Av.mk (below_keep HB5.out HB5.out.size k6 (by rintro k (rfl | rfl) <;> assumption))
              clear h6 k6
              go_wp2_with fail
              go_roundw
              case rel => exact ⟨l + 1, by omega, by go_num, H6.out, HB6.out⟩
              case measure => simp [intOf]; omega
            · obtain rfl : l = j := by omega
              go_wp2_with fail
              refine (fullR g k bm l (k + l) _ _ _ HT5.out (by omega)).mono ?_
              rintro e w6 ⟨rfl, hb⟩
              have H6 := Av.mk (HT5.out.keep hb)
              have HB6 := Av.mk (below_then HB5.out HB5.out.size hb)
              clear hb
              go_wp2_with fail
              refine (lenR g k bm l (k + l) _ H6.out).mono ?_
              rintro e w7 ⟨rfl, rfl⟩
              have hs : (((k + l : Nat) : Int) - l) = k := by omega
              rw [hs]
              go_wp2
              go_ret
              exact ⟨rfl, HB6.out⟩

end Go.Proofs.Ytjehcdedljckbaa
