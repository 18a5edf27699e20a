/- LruKeeps: the walk. -/
import Derived.Test.YtiopmehaghcpfaaSpk
import Derived.Test.YtiopmehaghcpfaaKeepsP
import Derived.Test.YtiopmehaghcpfaaInts
namespace Go.Proofs.Ytiopmehaghcpfaa
open Go.RowKit Go.Maps
attribute [local go_sem ↓] run_max_int run_min_int

theorem law3 : Keyed Try.prog 3 := int_keyed Try.underlying3
theorem key3 {id : Int} (hid : (Lit.int .i64 id).wf = true) : keyOf Try.prog 3 (.int .i64 id) = some (iOf id) := keyOf_int_mk Try.underlying3 hid
def decI (v : Value) : Option Int := match v with
  | .int .i64 a => some a
  | _ => none
theorem decI_enc (c : Int) : decI (.int .i64 c) = some c := rfl
theorem decI_inv (v : Value) (x : Int) (h : decI v = some x) : v = .int .i64 x := by
  unfold decI at h
  split at h
  · cases h; rfl
  · cases h

theorem below_then {B : Nat} {w w1 w2 : World} (h : Below B w w1) (hB : B ≤ w1.heap.size) (k : Below w1.heap.size w1 w2) : Below B w w2 :=
  h.trans ⟨k.os, k.tape, k.output, k.size, fun i hi => k.block i (Nat.lt_of_lt_of_le hi hB)⟩
/-- The law's state: a cache at g and the map at bm, that say the same. -/
structure Kst (w : World) (g bm N : Nat) (v : Value) (l : List (Int × Int)) (D : DataW Int) : Prop where
  lru : LruI w g g N v l
  map : w.ownsMap Try.prog 3 (rdr decI) bm (Maps.size D) D
  fit : Fit l D N
theorem Kst.ne {w : World} {g bm N : Nat} {v : Value} {l : List (Int × Int)} {D : DataW Int} (h : Kst w g bm N v l D) : bm ≠ g := map_ne_blk h.map h.lru.blk
theorem Kst.ne2 {w : World} {g bm N : Nat} {v : Value} {l : List (Int × Int)} {D : DataW Int} (h : Kst w g bm N v l D) : ¬ some bm = v.ownBlock := fun e => map_ne_row h.map h.lru.row bm e.symm rfl
/-- Behind a Put of the law. -/
theorem Kst.put {w w' w2 : World} {g bm N : Nat} {v v' : Value} {l l' : List (Int × Int)} {D : DataW Int} {m : Nat} (h : Kst w g bm N v l D) (k x : Int) (h0 : 0 ≤ k) (h1 : k < N)
    (hl' : l' = (k, x) :: l.filter (fun p => decide (p.1 ≠ k))) (hl : LruI w' g g N v' l') (ho : w2.ownsMap Try.prog 3 (rdr decI) bm m (D.put (iOf k) (.held x))) (ht : w'.mapTurned w2 bm) (hm : w'.ownsMap Try.prog 3 (rdr decI) bm (Maps.size D) D) :
    Kst w2 g bm N v' l' (D.put (iOf k) (.held x)) := by
  subst hl'
  have hk : Keep (fun k => k = bm) w' w2 := (Keep.refl _ w').turned ht (fun _ => rfl)
  refine ⟨hl.keep hk (map_ne_blk hm hl.blk).symm (fun i hi e => map_ne_row hm hl.row i hi e), ownsMap_tight ho, h.fit.put (hm.tidy law3).isMap k x h0 h1⟩
theorem Kst.below {w w' : World} {g bm N : Nat} {v : Value} {l : List (Int × Int)} {D : DataW Int} (h : Kst w g bm N v l D) (hb : Below w.heap.size w w') : Kst w' g bm N v l D :=
  ⟨h.lru.below hb, ownsMap_keep h.map (Keep.of_below (S := fun _ => False) hb) (by simp), h.fit⟩

theorem put_keep {w wr w' : World} {g N : Nat} {v : Value} {l : List (Int × Int)} (hb : Below w.heap.size w wr) (hg : w.heap.size ≤ g) (hl : LruI wr g g N v l) (hk : Keep (fun k => k = g ∨ some k = v.ownBlock) wr w') : Below w.heap.size w w' :=
  below_keep hb hb.size hk (by
    rintro k (rfl | e)
    · exact hg
    · exact Nat.le_trans hg (row_ge hl.row e.symm))

theorem put_fit {w : World} {g bm N : Nat} {v : Value} {l : List (Int × Int)} {D : DataW Int} (h : Kst w g bm N v l D) (k x : Int) (h0 : 0 ≤ k) (h1 : k < N) (hN : N ≤ 100) :
    Calls Try.prog 15 #[.pointer (some ⟨g, 0, none⟩), .int .i64 k, .int .i64 x] w (PutI g g N v ((k, x) :: l.filter (fun p => decide (p.1 ≠ k))) (.tuple #[.int .i64 0, .bool false]) w) := by
  have hlen := h.fit.len
  by_cases hk : keyAt k l < l.length
  · rw [← erase_key k l h.fit.nodup]
    exact put_hit_I g g N v l k x w h.lru (by omega) _ rfl hk
  · have := h.fit.room (h.map.tidy law3).isMap k h0 h1 hk
    rw [filter_none k l (by rwa [keyAt_lt] at hk)]
    exact put_room_I g g N v l k x w h.lru (by omega) _ rfl hk (by omega) (Nat.le_refl _)
theorem grown_of_keep {row : Option Nat} {w w' : World} (h : Keep (fun k => some k = row) w w') : w.grownBy w' row := ⟨h.os, h.tape, h.output, h.size, fun k hk hn => h.block k hk hn⟩
theorem get_fit' {w : World} {g N : Nat} {v : Value} {l : List (Int × Int)} {D : DataW Int} (h : LruI w g g N v l) (hf : Fit l D N) (k c : Int) (hh : Maps.has D (iOf k) = true) (hc : atK D (iOf k) 0 = c) (hN : N ≤ 100) :
    (k, c) ∈ l ∧ Calls Try.prog 16 #[.pointer (some ⟨g, 0, none⟩), .int .i64 k] w (GetI g g N v ((k, c) :: l.filter (fun p => decide (p.1 ≠ k))) (.tuple #[.int .i64 c, .bool true]) w) := by
  have hlen := hf.len
  obtain ⟨hl, e⟩ := hf.at k c hh hc
  refine ⟨by rw [← e]; exact List.getElem_mem hl, ?_⟩
  have := get_hit_I g g N v l k w h (by omega) _ rfl hl
  rw [e, erase_key k l hf.nodup] at this
  exact this
theorem key_in (a : Int) (N : Nat) (hN1 : 1 ≤ N) (hN2 : N ≤ 20) : 0 ≤ (wrap64 (a.tmod N + N)).tmod N ∧ (wrap64 (a.tmod N + N)).tmod N < N := by
  have h1 : a.tmod N < N := by
    have := Int.tmod_lt_of_pos a (show (0 : Int) < N by omega)
    exact this
  have h2 : -(N : Int) < a.tmod N := by
    have := Int.lt_tmod_of_pos a (show (0 : Int) < N by omega)
    exact this
  have h3 : wrap64 (a.tmod N + N) = a.tmod N + N := by unfold wrap64; omega
  rw [h3]
  exact ⟨Int.tmod_nonneg _ (by omega), Int.tmod_lt_of_pos _ (by omega)⟩

set_option maxRecDepth 100000 in
set_option maxHeartbeats 4000000 in
theorem keeps_walk (a0 : Int) (h0 : 0 ≤ a0) (h1 : a0 ≤ 255) (A : Option Addr) (n c : Nat) (F : Nat → Int) (w : World) (hA : Ints w A n F) (hn : n ≤ 9223372036854775807) :
    Calls Try.prog 3 #[.int .u8 a0, .slice A n c] w (RetB (.bool true) w) := by
  obtain ⟨N, hN, hN1, hN2⟩ : ∃ N : Nat, 1 + a0 % 20 = (N : Int) ∧ 1 ≤ N ∧ N ≤ 20 := ⟨(1 + a0 % 20).toNat, by omega, by omega, by omega⟩
  have HN := Av.mk hN
  have HA := Av.mk hA
  clear hN hA
  by_cases hbig : 200 < n
  · go_enter Try.func3, Try.ntmps3
    go_wp2_with fail
    refine (speaks13 w).mono ?_
    rintro e w1 ⟨rfl, hb1⟩
    have HB1 := Av.mk hb1
    clear hb1
    go_wp2
    go_ret
    exact ⟨rfl, HB1.out⟩
  have hmm := @run_makeMap Try.prog
  go_enter Try.func3, Try.ntmps3
  go_wp2_with fail
  refine (speaks13 w).mono ?_
  rintro e w1 ⟨rfl, hb1⟩
  have HB1 := Av.mk hb1
  clear hb1
  go_wp2_with fail
  rw [HN.out]
  refine (new_I N w1).mono ?_
  rintro e w2 ⟨rfl, hl2, hb2⟩
  rw [show mx (N : Int) 1 = N from by unfold mx; split <;> omega] at hl2
  have hg : w.heap.size ≤ w1.heap.size := HB1.out.size
  have HB2 := Av.mk (below_then HB1.out HB1.out.size hb2)
  have HL2 := Av.mk hl2
  generalize w1.heap.size = g at *
  clear hb2 hl2 HB1
  go_wp2_with fail
  have HK := Av.mk (show Kst (w2.alloc (.map #[] 0)) g w2.heap.size N (.slice none 0 0) [] (.map []) from ⟨HL2.out.keep ((Keep.refl (fun _ => False) _).alloc _) (by simp) (by simp), World.ownsMap_made w2 _ _ _, Fit.nil N⟩)
  have HB := Av.mk (below_alloc HB2.out (.map #[] 0))
  have hz := HB2.out.size
  clear HB2 HL2
  generalize w2.alloc (.map #[] 0) = w3 at *
  generalize w2.heap.size = bm at *
  clear hmm
  go_loopw [36] (fun i wr => ∃ (k : Nat) (l : List (Int × Int)) (v : Value) (D : DataW Int), k ≤ n ∧ Maps.size D ≤ k ∧ i = .int .i64 k ∧ Kst wr g bm N v l D ∧ Below w.heap.size w wr) (fun i _ => n - (intOf i).toNat)
  case atStart => exact ⟨0, [], _, .map [], Nat.zero_le _, by simp [Maps.size], rfl, HK.out, HB.out⟩
  case round =>
    obtain ⟨k, l, v, D, hk, hfew, rfl, hs, hb⟩ := hrel
    have HS := Av.mk hs
    have HB3 := Av.mk hb
    clear hs hb
    by_cases hlt : k < n
    · obtain ⟨b, off, rfl, hbl, hF⟩ := HA.out (by omega)
      obtain ⟨f0, f1, e0⟩ := hF k hlt
      generalize F k = a at *
      clear hF
      rw [← HB3.out.cell (p := ⟨b, _, none⟩) hbl] at e0
      go_wp2_with fail
      have hkey := key_in a N hN1 hN2
      generalize (wrap64 (a.tmod N + N)).tmod N = K at *
      obtain ⟨hK0, hK1⟩ := hkey
      have hkey := Av.mk (key3 (wf64 (a := K) (by omega) (by omega)))
      refine (put_fit HS.out K _ hK0 hK1 (by omega)).mono ?_
      rintro e w4 ⟨rfl, v', hl4, k4, _⟩
      have HL4 := Av.mk hl4
      have HB4 := Av.mk (put_keep HB3.out hg HS.out.lru k4)
      have HM4 := Av.mk (ownsMap_keep HS.out.map k4 (by rintro (e | e); exact HS.out.ne e; exact HS.out.ne2 e))
      clear hl4 k4
      have hsz := HS.out.fit.len
      go_wp2_with (first | (at_mapUpdate; refine wpList_store decI rfl _ _ _ 26 rfl 3 3 law3 Try.underlying26 bm _ D rfl HM4.out (by unfold maxLen; omega) _ _ _ rfl rfl hkey.out (k + 1) rfl ?_; intro w5 hown5 hturn5; have HO5 := Av.mk hown5; have HT5 := Av.mk hturn5; clear hown5 hturn5))
      have HS5 := Av.mk (HS.out.put K _ hK0 hK1 rfl HL4.out HO5.out HT5.out HM4.out)
      have HB5 := Av.mk (below_keep HB4.out HB4.out.size ((Keep.refl (fun k => k = bm) w4).turned HT5.out (fun _ => rfl)) (by rintro k rfl; exact hz))
      go_roundw
      case rel => exact ⟨k + 1, _, _, _, by omega, by rw [size_put (HM4.out.tidy law3)]; split <;> omega, by go_num, HS5.out, HB5.out⟩
      case measure => simp [intOf]; omega
    · obtain rfl : k = n := by omega
      go_wp2_with (first | (at_range; refine wpList_range_own _ rfl _ 26 rfl 3 3 law3 Try.underlying26 (rdr decI) bm _ D rfl HS.out.map ?_; intro w5 hrg0 hg0 hs0; have R0 := Av.mk hrg0; have G0 := Av.mk hg0; clear hrg0 hg0 hs0))
      have HS5 := Av.mk (show LruI w5 g g N v l ∧ Fit l D N from ⟨HS.out.lru.keep ((Keep.refl (fun _ => False) _).grown G0.out (by simp)) (by simp) (by simp), HS.out.fit⟩)
      have HB5 := Av.mk (HB3.out.grown G0.out HB3.out.size (by simp))
      have hrb : w.heap.size ≤ wr.heap.size := HB3.out.size
      have hgr : g ≠ wr.heap.size := by have := HS.out.lru.blk.lt; omega
      have hvr : ¬ some wr.heap.size = v.ownBlock := fun e => by have := row_lt HS.out.lru.row _ e; omega
      have hvb : ¬ some bm = v.ownBlock := HS.out.ne2
      have hvw : ∀ i, v.ownBlock = some i → w.heap.size ≤ i := fun i hi => Nat.le_trans hg (row_ge HS.out.lru.row hi)
      clear HS HB3 G0
      generalize wr.heap.size = r at *
      go_frame
      go_loopw [13] (fun _ wx => ∃ (left : Lit → Bool) (cnt : Nat) (l : List (Int × Int)), wx.ranges Try.prog 3 (rdr decI) bm r (Maps.size D) D left cnt ∧ LruI wx g g N v l ∧ Fit l D N ∧ Below w.heap.size w wx) (fun _ wx => wx.rangeLeft bm r)
      case atStart => exact ⟨_, _, _, R0.out, HS5.out.1, HS5.out.2, HB5.out⟩
      case round =>
        obtain ⟨wx, rfl⟩ : ∃ wx : World, wx = wr := ⟨_, rfl⟩
        obtain ⟨left, cnt, l, hrg, hl, hf, hb⟩ := hrel
        have R1 := Av.mk hrg
        have HL := Av.mk hl
        have HF := Av.mk hf
        have HB6 := Av.mk hb
        clear hrg hl hf hb HS5 HB5 R0
        go_wp2_with (first | (at_next; refine wpList_next_int decI (Value.int .i64) decI_inv decI_enc rfl _ rfl 3 .i64 law3 Try.underlying3 bm r _ D left cnt rfl R1.out ?_ ?_))
        · intro _ _
          go_wp2_with fail
          have hlen := HF.out.len
          refine (len_I g g N v l wx HL.out).mono ?_
          rintro e w7 ⟨rfl, rfl⟩
          go_wp2_with fail
          by_cases hfull : l.length < N
          · refine (put_room_I g g N v l N 1 wx HL.out (by omega) _ rfl HF.out.out (by omega) (Nat.le_refl _)).mono ?_
            rintro e w8 ⟨rfl, v8, hl8, k8, _⟩
            have HL8 := Av.mk hl8
            have HB8 := Av.mk (below_keep HB6.out HB6.out.size k8 (by rintro k (rfl | e); exact hg; exact hvw k e.symm))
            have hv8 : ∀ i, v8.ownBlock = some i → w.heap.size ≤ i := fun i hi => Nat.le_trans hg (row_ge hl8.row hi)
            clear hl8 k8
            go_wp2_with fail
            have hk0 : keyAt (N : Int) (((N : Int), (1 : Int)) :: l) = 0 := by rw [keyAt_cons]; simp
            refine (get_hit_I g g N v8 _ N w8 HL8.out (by simp; omega) 0 hk0.symm (by simp)).mono ?_
            rintro e w9 ⟨rfl, hl9, k9⟩
            have HL9 := Av.mk hl9
            have HB9 := Av.mk (below_keep HB8.out HB8.out.size k9 (fun k e => hv8 k e.symm))
            clear hl9 k9
            have hne : ¬ l.length = N := by omega
            have hle : ((((N : Int), (1 : Int)) :: l)[0] :: (((N : Int), (1 : Int)) :: l).eraseIdx 0).length ≤ N := by simp; omega
            generalize ((((N : Int), (1 : Int)) :: l)[0] :: (((N : Int), (1 : Int)) :: l).eraseIdx 0) = l9 at *
            go_wp2_with fail
            refine (len_I g g N v8 l9 w9 HL9.out).mono ?_
            rintro e w10 ⟨rfl, rfl⟩
            go_wp2
            go_ret
            have hbq : ((l.length : Int) == (N : Int)) = false := by simp; omega
            exact ⟨by simp [hbq], HB9.out⟩
          · have heq : l.length = N := by omega
            refine (put_evict_I g g N v l N 1 wx HL.out (by omega) _ rfl HF.out.out (by omega) (by omega)).mono ?_
            rintro e w8 ⟨rfl, v8, hl8, k8, _⟩
            have HL8 := Av.mk hl8
            have HB8 := Av.mk (below_keep HB6.out HB6.out.size k8 (by rintro k (rfl | e); exact hg; exact hvw k e.symm))
            have hv8 : ∀ i, v8.ownBlock = some i → w.heap.size ≤ i := fun i hi => Nat.le_trans hg (row_ge hl8.row hi)
            clear hl8 k8
            have hle8 : (l.eraseIdx (l.length - 1)).length = N - 1 := by rw [List.length_eraseIdx, if_pos (by omega)]; omega
            generalize l.eraseIdx (l.length - 1) = l8 at *
            go_wp2_with fail
            have hk0 : keyAt (N : Int) (((N : Int), (1 : Int)) :: l8) = 0 := by rw [keyAt_cons]; simp
            refine (get_hit_I g g N v8 _ N w8 HL8.out (by simp; omega) 0 hk0.symm (by simp)).mono ?_
            rintro e w9 ⟨rfl, hl9, k9⟩
            have HL9 := Av.mk hl9
            have HB9 := Av.mk (below_keep HB8.out HB8.out.size k9 (fun k e => hv8 k e.symm))
            clear hl9 k9
            have hle : ((((N : Int), (1 : Int)) :: l8)[0] :: (((N : Int), (1 : Int)) :: l8).eraseIdx 0).length ≤ N := by simp; omega
            generalize ((((N : Int), (1 : Int)) :: l8)[0] :: (((N : Int), (1 : Int)) :: l8).eraseIdx 0) = l9 at *
            go_wp2_with fail
            refine (len_I g g N v8 l9 w9 HL9.out).mono ?_
            rintro e w10 ⟨rfl, rfl⟩
            go_wp2
            go_ret
            have hbq : ((l.length : Int) == (N : Int)) = true := by simp; omega
            exact ⟨by simp [hbq], HB9.out⟩
        · intro x c w7 cnt1 hwx hlx hhas hat hrg1 hcl hg1 hs1 hen
          have hat0 : atK D (iOf x) 0 = c := hat _
          have R2 := Av.mk hrg1
          have HL2 := Av.mk (HL.out.keep ((Keep.refl (fun k => k = r) _).grown hg1 (by simp)) hgr (fun i hi e => hvr (by rw [hi, e])))
          have HB7 := Av.mk (HB6.out.grown hg1 HB6.out.size (fun k e => by cases e; exact hrb))
          obtain ⟨hmem, hget⟩ := get_fit' HL2.out HF.out x c hhas hat0 (by omega)
          have HG := Av.mk hget
          clear hat hrg1 hg1 hlx hs1 hget
          go_wp2_with fail
          refine HG.out.mono ?_
          rintro e w8 ⟨rfl, hl8, k8⟩
          have HL8 := Av.mk hl8
          have HB8 := Av.mk (below_keep HB7.out HB7.out.size k8 (fun k e => hvw k e.symm))
          have R8 := Av.mk (R2.out.kept (w' := w8) (row := v.ownBlock) (grown_of_keep k8) (fun e => hvb e) (fun e => hvr e))
          clear hl8 k8
          go_wp2_with fail
          go_roundw
          case rel => exact ⟨_, _, _, R8.out, HL8.out, HF.out.touch (x, c) hmem, HB8.out⟩
          case measure => rw [R8.out.left_eq, R1.out.left_eq]; exact hcl
end Go.Proofs.Ytiopmehaghcpfaa
