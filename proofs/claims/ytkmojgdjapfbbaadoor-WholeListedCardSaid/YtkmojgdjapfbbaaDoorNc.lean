/- strings.ContainsAny of a short name, whatever its bytes, and "/\x00". -/
import Derived.Test.YtkmojgdjapfbbaaDoorRn
namespace Go.Proofs.YtkmojgdjapfbbaaDoor
open Go.RowKit Go.Maps
set_option linter.unusedSimpArgs false
set_option linter.unusedVariables false

theorem decode_bytes (s : ByteArray) (pos : Nat) (h : pos < s.size) (ha : 128 ≤ (s[pos]'h).toNat) :
    pos + (Utf8.decode s pos).2 ≤ s.size ∧ ∀ k, k < (Utf8.decode s pos).2 → 128 ≤ (s.get! (pos + k)).toNat := by
  have hn : ¬ (s[pos]'h).toNat < 128 := by omega
  have h0 : 128 ≤ (s.get! (pos + 0)).toNat := by rw [get_at s pos h]; exact ha
  have key : ∀ n : Nat, 1 ≤ n → n ≤ 4 → (∀ k, 1 ≤ k → k < n → pos + k < s.size ∧ 128 ≤ (s.get! (pos + k)).toNat) → pos + n ≤ s.size ∧ ∀ k, k < n → 128 ≤ (s.get! (pos + k)).toNat := by
    intro n h1 h4 hk
    refine ⟨?_, fun k hkn => ?_⟩
    · rcases Nat.lt_or_ge 1 n with h | h
      · have := (hk (n - 1) (by omega) (by omega)).1; omega
      · omega
    · rcases Nat.eq_zero_or_pos k with rfl | hp
      · exact h0
      · exact (hk k hp hkn).2
  have one : pos + 1 ≤ s.size ∧ ∀ k, k < 1 → 128 ≤ (s.get! (pos + k)).toNat := key 1 (by omega) (by omega) (fun k a b => by omega)
  have hc : ∀ k, (decide (pos + k < s.size) && ((s.get! (pos + k)).toNat / 64 == 2)) = true → pos + k < s.size ∧ 128 ≤ (s.get! (pos + k)).toNat := by
    intro k hk
    simp at hk
    omega
  simp only [Utf8.decode, get_at s pos h, hn, if_false]
  split
  · rename_i hx
    simp only [Bool.and_eq_true] at hx
    split
    · exact key 2 (by omega) (by omega) (fun k a b => by
        have e : k = 1 := by omega
        subst e
        exact hc 1 (by simpa using hx.2))
    · exact one
  · split
    · rename_i hx
      simp only [Bool.and_eq_true] at hx
      split
      · refine key 3 (by omega) (by omega) (fun k a b => ?_)
        rcases (show k = 1 ∨ k = 2 by omega) with rfl | rfl
        · exact hc 1 (by simpa using hx.1.2)
        · exact hc 2 (by simpa using hx.2)
      · exact one
    · split
      · rename_i hx
        simp only [Bool.and_eq_true] at hx
        split
        · refine key 4 (by omega) (by omega) (fun k a b => ?_)
          rcases (show k = 1 ∨ k = 2 ∨ k = 3 by omega) with rfl | rfl | rfl
          · exact hc 1 (by simpa using hx.1.1.2)
          · exact hc 2 (by simpa using hx.1.2)
          · exact hc 3 (by simpa using hx.2)
        · exact one
      · exact one
/-- A world in which a text's iterator has come to another place. -/
def stepped (w : World) (b : Nat) (s : ByteArray) (pos : Nat) : World := { w with heap := w.heap.setIfInBounds b (.stringIter s pos) }
theorem run_next_at {P : Program} (wx : World) (b : Nat) (s : ByteArray) (pos : Nat) (ty : TypeId) (hb : wx.heap[b]? = some (.stringIter s pos)) (h : pos < s.size) :
    (Instr.next (.pointer (some ⟨b, 0, none⟩)) true ty).run P wx = .ok (.tuple #[.bool true, .int .i64 pos, .int .i32 (Utf8.decode s pos).1]) (stepped wx b s (pos + (Utf8.decode s pos).2)) := by
  simp only [Instr.next, getObj, setObj, Sem.run_bind, Sem.run, hb, Result.andThen, h, if_true]
  simp [goInt, stepped]
theorem run_next_at_end {P : Program} (wx : World) (b : Nat) (s : ByteArray) (pos : Nat) (ty : TypeId) (hb : wx.heap[b]? = some (.stringIter s pos)) (h : ¬ pos < s.size) :
    (Instr.next (.pointer (some ⟨b, 0, none⟩)) true ty).run P wx = .ok (.tuple #[.bool false]) wx := by
  simp [Instr.next, getObj, Sem.run, hb, h]
theorem stepped_at (w : World) (b : Nat) (s : ByteArray) (pos : Nat) (h : b < w.heap.size) : (stepped w b s pos).heap[b]? = some (.stringIter s pos) := by
  simp [stepped, h]
theorem stepped_below {B : Nat} {w0 w : World} {b : Nat} {s : ByteArray} {pos : Nat} (h : Below B w0 w) (hb : B ≤ b) : Below B w0 (stepped w b s pos) :=
  ⟨h.os, h.tape, h.output, by simpa [stepped] using h.size, fun k hk => by
    have : b ≠ k := by omega
    simp only [stepped, Array.getElem?_setIfInBounds, this, if_false]
    exact h.block k hk⟩
def AnyP (s : ByteArray) (w : World) (e : Ending) (w' : World) : Prop := ∃ k : Int, e = .returned (.int .i64 k) ∧ decide (0 ≤ k) = hasBad s ∧ Below w.heap.size w w'
theorem noAny_wide {s : List UInt8} {i n : Nat} (h : Lib.NoAny s [47, 0] i) (hw : ∀ k, k < n → ∀ b, s[i + k]? = some b → 128 ≤ b.toNat) : Lib.NoAny s [47, 0] (i + n) := by
  intro j b hj hb
  rcases Nat.lt_or_ge j i with h1 | h1
  · exact h j b h1 hb
  · have := hw (j - i) (by omega) b (by rw [show i + (j - i) = j by omega]; exact hb)
    have h1 : b ≠ 47 := by rintro rfl; revert this; decide
    have h2 : b ≠ 0 := by rintro rfl; revert this; decide
    simp [h1, h2]
set_option maxRecDepth 100000 in
set_option maxHeartbeats 4000000 in
theorem Any_short (s : ByteArray) (h8 : s.size ≤ 8) (w : World) : Calls Tryd.prog 114 #[.string s, .string sl0] w (AnyP s w) := by
  have HS := Av.mk (Tryd.strings_shouldUseASCIISet s.size)
  have hz : decide ((8 : Int) < (s.size : Int)) = false := by simp; omega
  rw [hz] at HS
  clear hz
  go_enter Tryd.func114, Tryd.ntmps114
  go_wp2_with fail
  refine (HS.out _).mono ?_
  rintro e wv ⟨rfl, rfl⟩
  go_wp2_with fail
  go_loopw [9, 10] (fun _ _ wx => ∃ i : Nat, i ≤ s.size ∧ wx.heap[wv.heap.size]? = some (.stringIter s i) ∧ Below wv.heap.size wv wx ∧ Av (Lib.NoAny s.data.toList [47, 0] i)) (fun _ _ wx => s.size - wx.iterPos wv.heap.size)
  case atStart => exact ⟨0, Nat.zero_le _, World.iter_heap wv s 0, below_alloc (Below.refl _ wv) _, ⟨Lib.NoAny.zero _ _⟩⟩
  case round =>
    obtain ⟨i, hi, hit, hb, HN⟩ := hrel
    have HB := Av.mk hb
    have hbl : wv.heap.size < wr.heap.size := (Array.getElem?_eq_some_iff.1 hit).1
    have hpos : wr.iterPos wv.heap.size = i := by unfold World.iterPos; rw [hit]
    clear hb
    by_cases hlt : i < s.size
    · have hnx := fun ty => run_next_at (P := Tryd.prog) wr wv.heap.size s i ty hit hlt
      obtain ⟨x, hx⟩ : ∃ x : UInt8, s[i]'hlt = x := ⟨_, rfl⟩
      have hxl : s.data.toList[i]? = some x := by rw [← hx]; exact Lib.data_getElem? s i hlt
      by_cases h128 : x.toNat < 128
      · rw [decode_ascii s i hlt (by rw [hx]; exact h128), hx] at hnx
        have hw1 : (stepped wr wv.heap.size s (i + 1)).heap[wv.heap.size]? = some (.stringIter s (i + 1)) := stepped_at wr _ s _ hbl
        have HB1 : Av (Below wv.heap.size wv (stepped wr wv.heap.size s (i + 1))) := ⟨stepped_below HB.out (Nat.le_refl _)⟩
        have HX := Av.mk hxl
        clear hxl hx hit
        have HR := Av.mk (Tryd.strings_IndexRune_ascii sl0 (x.toNat : Int) (stepped wr wv.heap.size s (i + 1)) (by omega) (by omega))
        have hback : ((x.toNat : Int)).toNat.toUInt8 = x := by simp
        rw [hback] at HR
        have hcon := Lib.contains_iff_indexByte sl0.data.toList x
        clear hback
        have hl0 : sl0.data.toList = [47, 0] := rfl
        rw [hl0] at HR hcon
        clear hl0
        cases hin : ([47, 0] : List UInt8).contains x
        · rw [hin] at hcon
          have hge : decide (0 ≤ Lib.indexByte [47, 0] x) = false := hcon.symm
          have HN1 := Av.mk (HN.out.succ HX.out hin)
          clear hcon hin
          go_wp2_with fail
          refine HR.out.mono ?_
          rintro e _ ⟨rfl, rfl⟩
          go_wp2_with fail
          go_roundw
          case rel => exact ⟨i + 1, by omega, hw1, HB1.out, HN1⟩
          case measure =>
            have e : (stepped wr wv.heap.size s (i + 1)).iterPos wv.heap.size = i + 1 := by unfold World.iterPos; rw [hw1]
            rw [e, hpos]; omega
        · rw [hin] at hcon
          have hge : decide (0 ≤ Lib.indexByte [47, 0] x) = true := hcon.symm
          have HH : Av (hasBad s = true) := ⟨by unfold hasBad Lib.containsAny; rw [Lib.indexAny_hit HN.out HX.out hin]; simp⟩
          clear hcon hin
          go_wp2_with fail
          refine HR.out.mono ?_
          rintro e _ ⟨rfl, rfl⟩
          go_wp2_with fail
          go_ret
          exact ⟨(i : Int), rfl, by rw [HH.out]; simp, HB1.out⟩
      · have hd := decode_high s i hlt (by rw [hx]; omega)
        have hd2 := decode_bytes s i hlt (by rw [hx]; omega)
        obtain ⟨rw', hrw⟩ : ∃ y, Utf8.decode s i = y := ⟨_, rfl⟩
        rw [hrw] at hd hd2 hnx
        obtain ⟨r, n⟩ := rw'
        simp only at hd hd2 hnx
        have HN1 : Av (Lib.NoAny s.data.toList [47, 0] (i + n)) := ⟨noAny_wide HN.out (fun k hk b hb => by
          have h1 := hd2.2 k hk
          have h2 : i + k < s.size := by omega
          have h3 := Lib.data_getElem? s (i + k) h2
          rw [hb] at h3
          have h4 := get_at s (i + k) h2
          rw [Nat.add_zero] at h4
          rw [h4] at h1
          injection h3 with h3
          rw [h3]
          exact h1)⟩
        have hw1 : (stepped wr wv.heap.size s (i + n)).heap[wv.heap.size]? = some (.stringIter s (i + n)) := stepped_at wr _ s _ hbl
        have hl1 : wv.heap.size < (stepped wr wv.heap.size s (i + n)).heap.size := by simpa [stepped] using hbl
        have HB1 : Av (Below wv.heap.size wv (stepped wr wv.heap.size s (i + n))) := ⟨stepped_below HB.out (Nat.le_refl _)⟩
        have hle := hd2.1
        have hn1 := hd.2
        have HR := Av.mk (Rune_high (r : Int) (stepped wr wv.heap.size s (i + n)) (by omega))
        clear hd hd2 hrw hxl hx hit
        generalize stepped wr wv.heap.size s (i + n) = w1 at *
        go_wp2_with fail
        refine HR.out.mono ?_
        rintro e w2 ⟨rfl, hb2⟩
        have HB2 := Av.mk (below_then HB1.out (Nat.le_of_lt hl1) hb2)
        have hw2 := (hb2.block _ hl1).trans hw1
        clear hb2
        go_wp2_with fail
        go_roundw
        case rel => exact ⟨i + n, by omega, hw2, HB2.out, HN1⟩
        case measure =>
          have e : w2.iterPos wv.heap.size = i + n := by unfold World.iterPos; rw [hw2]
          rw [e, hpos]; omega
    · obtain rfl : i = s.size := by omega
      have hnx := fun ty => run_next_at_end (P := Tryd.prog) wr wv.heap.size s s.size ty hit (by omega)
      have HH : Av (hasBad s = false) := ⟨by unfold hasBad Lib.containsAny; rw [Lib.indexAny_none (by rw [← Lib.size_eq]; exact HN.out)]; rfl⟩
      go_wp2_with fail
      go_ret
      exact ⟨-1, rfl, by rw [HH.out]; rfl, HB.out⟩
theorem Any_long (s : ByteArray) (h8 : 8 < s.size) (hs : s.size < 4294967281) (w : World) : Calls Tryd.prog 114 #[.string s, .string sl0] w (AnyP s w) := by
  refine (Tryd.strings_IndexAny_long zero189 s sl0 w (by decide) h8 hs (by decide) (fun j b hb => ?_)).mono ?_
  · match j with
    | 0 => have e : (47 : UInt8) = b := by simpa using hb
           rw [← e]; decide
    | 1 => have e : (0 : UInt8) = b := by simpa using hb
           rw [← e]; decide
    | j + 2 => simp at hb
  · rintro e w' ⟨rfl, rfl⟩
    exact ⟨_, rfl, rfl, below_alloc (below_alloc (Below.refl _ w) _) _⟩
/-- Any name. -/
theorem nameC_all (s : ByteArray) (hs : s.size < 4294967281) : NameC s := by
  intro w
  have HA : Av (∀ W, Calls Tryd.prog 114 #[.string s, .string sl0] W (AnyP s W)) := ⟨fun W => by
    by_cases h8 : s.size ≤ 8
    · exact Any_short s h8 W
    · exact Any_long s (by omega) hs W⟩
  go_enter Tryd.func110, Tryd.ntmps110
  go_wp2_with fail
  refine (HA.out _).mono ?_
  rintro e w1 ⟨k, rfl, hk, hb⟩
  have HK := Av.mk hk
  have HB := Av.mk hb
  clear hk hb
  go_wp2_with fail
  go_ret
  exact ⟨retb HK.out.symm, HB.out⟩
end Go.Proofs.YtkmojgdjapfbbaaDoor
