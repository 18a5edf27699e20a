/- The contracts of package wire: the reader; of the reference. -/
import Derived.Test.YtlajflcfpommoaaWr
import Derived.Deep.DeepCutAuto
import Derived.Deep.CutBlock
namespace Go.Proofs.Ytlajflcfpommoaa
open Go.RowKit Go.Maps

/-- The number that bytes are. -/
def beV (l : List UInt8) : Int := l.foldl (fun n b => n * 256 + b.toNat) 0
theorem beV_snoc (l : List UInt8) (b : UInt8) : beV (l ++ [b]) = beV l * 256 + b.toNat := by simp [beV, List.foldl_append]
theorem beV_bound : ∀ (k : Nat) (l : List UInt8), l.length = k → 0 ≤ beV l ∧ beV l < 256 ^ k
  | 0, l, h => by
    have : l = [] := List.eq_nil_of_length_eq_zero h
    subst this
    exact ⟨Int.le_refl 0, by show (0 : Int) < 1; decide⟩
  | k + 1, l, h => by
    obtain ⟨l', b, rfl⟩ : ∃ l' b, l = l' ++ [b] := by
      rcases List.eq_nil_or_concat l with rfl | ⟨l', b, rfl⟩
      · simp at h
      · exact ⟨l', b, by simp⟩
    have hl : l'.length = k := by simpa using h
    have ih := beV_bound k l' hl
    rw [beV_snoc, Int.pow_succ]
    have := b.toNat_lt
    omega
theorem or_byte {n : Int} {b : Int} (h0 : 0 ≤ n) (h1 : n < 16777216) (hb0 : 0 ≤ b) (hb1 : b < 256) : bits .or .i64 (n * 256) b = n * 256 + b := by
  obtain ⟨n, rfl⟩ := Int.eq_ofNat_of_zero_le h0
  obtain ⟨b, rfl⟩ := Int.eq_ofNat_of_zero_le hb0
  have hn : n < 16777216 := by omega
  have hb : b < 256 := by omega
  have e1 : ((n : Int) * 256) = ((n * 256 : Nat) : Int) := by omega
  rw [e1]
  have e2 : (BitVec.ofInt 64 ((n * 256 : Nat) : Int) ||| BitVec.ofInt 64 (b : Int)).toNat = n * 256 + b := by
    rw [BitVec.ofInt_natCast, BitVec.ofInt_natCast, BitVec.toNat_or, BitVec.toNat_ofNat, BitVec.toNat_ofNat, Nat.mod_eq_of_lt (by omega), Nat.mod_eq_of_lt (by omega)]
    have := Nat.two_pow_add_eq_or_of_lt (i := 8) (b := b) hb n
    rw [Nat.mul_comm (2 ^ 8) n] at this
    exact this.symm
  have e3 : bits .or .i64 ((n * 256 : Nat) : Int) (b : Int) = IntKind.wrap .i64 (((BitVec.ofInt 64 ((n * 256 : Nat) : Int) ||| BitVec.ofInt 64 (b : Int)).toNat : Nat) : Int) := rfl
  rw [e3, e2, IntWalk.i64_in _ (by omega)]
  omega

def Rd (w : World) (g : Nat) (s : ByteArray) : Prop := Blk w g 46 #[.string s]
def RdP (v : Value) (g : Nat) (s : ByteArray) (w : World) (e : Ending) (w' : World) : Prop := e = .returned v ∧ Rd w' g s ∧ Keep (fun k => k = g) w w'

set_option maxHeartbeats 400000 in
theorem Read_calls (s : ByteArray) (w : World) : Calls Try.prog 12 #[.string s] w fun e w' => e = .returned (.pointer (some ⟨w.heap.size, 0, none⟩)) ∧ w.alloc (.cells #[.string s] 46) = w' := by
  go_enter Try.func12, Try.ntmps12
  go_wp2
  go_ret
  exact ⟨rfl, rfl⟩

set_option maxHeartbeats 400000 in
theorem Left_calls (g : Nat) (s : ByteArray) (w : World) (h : Rd w g s) : Calls Try.prog 16 #[.pointer (some ⟨g, 0, none⟩)] w (Same (.int .i64 s.size) w) := by
  have c0 := Blk.cell h 0
  simp at c0
  go_enter Try.func16, Try.ntmps16
  go_wp2
  go_ret
  exact ⟨rfl, rfl⟩

set_option maxHeartbeats 400000 in
theorem Take_no (g : Nat) (s : ByteArray) (sz : Int) (w : World) (h : Rd w g s) (hs : s.size ≤ maxLen) (hn : ¬ (1 ≤ sz ∧ sz ≤ 4 ∧ sz ≤ s.size)) :
    Calls Try.prog 14 #[.pointer (some ⟨g, 0, none⟩), .int .i64 sz] w (Same (.tuple #[.int .i64 0, .bool false]) w) := by
  have c0 := Blk.cell h 0
  simp at c0
  clear h
  unfold maxLen at hs
  by_cases h1 : sz < 1
  · clear hn
    go_enter Try.func14, Try.ntmps14
    go_wp2
    go_ret2
    exact ⟨rfl, rfl⟩
  by_cases h2 : 4 < sz
  · clear hn
    go_enter Try.func14, Try.ntmps14
    go_wp2
    go_ret2
    exact ⟨rfl, rfl⟩
  have h3 : (s.size : Int) < sz := by omega
  clear hn
  go_enter Try.func14, Try.ntmps14
  go_wp2
  go_ret2
  exact ⟨rfl, rfl⟩

theorem take_snoc (s : ByteArray) (k : Nat) (h : k < s.size) : (bsOf s).take (k + 1) = (bsOf s).take k ++ [s[k]] := by
  rw [List.take_succ_eq_append_getElem (by rw [bsOf_length]; exact h)]; rfl

set_option maxHeartbeats 1000000 in
theorem Take_yes (g : Nat) (s : ByteArray) (sz : Nat) (w : World) (h : Rd w g s) (hs : s.size ≤ 9000000000000000000) (h1 : 1 ≤ sz) (h4 : sz ≤ 4) (hle : sz ≤ s.size) :
    Calls Try.prog 14 #[.pointer (some ⟨g, 0, none⟩), .int .i64 sz] w (RdP (.tuple #[.int .i64 (beV ((bsOf s).take sz)), .bool true]) g (s.extract sz s.size) w) := by
  have c0 := Blk.cell h 0
  have fz := Blk.frozen h 0
  have hlt := Blk.lt h
  simp at c0
  have H := Av.mk h
  clear h
  go_enter Try.func14, Try.ntmps14
  go_wp2
  go_loop [6, 24] (fun n i => ∃ k : Nat, k ≤ sz ∧ i = .int .i64 k ∧ n = .int .i64 (beV ((bsOf s).take k))) (fun _ i => sz - (intOf i).toNat)
  case atStart => exact ⟨0, Nat.zero_le _, rfl, rfl⟩
  case round =>
    obtain ⟨k, hk, rfl, rfl⟩ := hrel
    by_cases hkl : k < sz
    · have hb := beV_bound k ((bsOf s).take k) (by rw [List.length_take, bsOf_length]; omega)
      have hks : k < s.size := by omega
      have hp : (256 : Int) ^ k ≤ 16777216 := by
        have : k = 0 ∨ k = 1 ∨ k = 2 ∨ k = 3 := by omega
        rcases this with rfl | rfl | rfl | rfl <;> decide
      have X := Av.mk (show beV ((bsOf s).take (k + 1)) = bits .or .i64 (beV ((bsOf s).take k) * 256) (wrap64 (s[k].toNat : Int)) from by
        rw [IntWalk.wrap64_in _ (by have := s[k].toNat_lt; omega), take_snoc s k hks, beV_snoc, or_byte hb.1 (by omega) (by omega) (by have := s[k].toNat_lt; omega)])
      have hb1 : 0 ≤ beV ((bsOf s).take k) := hb.1
      have hb2 : beV ((bsOf s).take k) < 16777216 := by omega
      clear hb hp
      go_wp2
      go_round
      case rel => exact ⟨k + 1, by omega, by go_num, by rw [X.out]⟩
      case measure => simp [intOf]; omega
    · obtain rfl : k = sz := by omega
      go_wp2
      go_ret2
      exact ⟨rfl, by simpa [Rd] using Blk.set_ H.out 0 (.string (s.extract k s.size)), (Keep.refl (fun k => k = g) w).setCell (p := ⟨g, 0, none⟩) (fun _ => rfl) _⟩

/-- What a text's reading comes to: nothing, or the text and what is left. -/
def RdSame (v : Value) (g : Nat) (s : ByteArray) (w : World) (e : Ending) (w' : World) : Prop := e = .returned v ∧ Rd w' g s ∧ Keep (fun k => k = g) w w'

set_option maxHeartbeats 400000 in
theorem RText_no1 (g : Nat) (s : ByteArray) (sz : Int) (w : World) (h : Rd w g s) (hs : s.size ≤ maxLen) (hn : ¬ (1 ≤ sz ∧ sz ≤ 4 ∧ sz ≤ s.size)) :
    Calls Try.prog 15 #[.pointer (some ⟨g, 0, none⟩), .int .i64 sz] w (RdP (.tuple #[.string ByteArray.empty, .bool false]) g s w) := by
  have c0 := Blk.cell h 0
  have fz := Blk.frozen h 0
  have HT := Av.mk (Take_no g s sz w h hs hn)
  have H := Av.mk h
  simp at c0
  clear h hn hs
  go_enter Try.func15, Try.ntmps15
  go_wp2_with fail
  refine HT.out.mono ?_
  rintro e w1 ⟨rfl, rfl⟩
  go_wp2
  go_ret2
  exact ⟨rfl, by simpa [Rd] using Blk.set_ H.out 0 (.string s), (Keep.refl (fun k => k = g) w).setCell (p := ⟨g, 0, none⟩) (fun _ => rfl) _⟩

set_option maxHeartbeats 400000 in
theorem RText_no2 (g : Nat) (s : ByteArray) (sz : Nat) (w : World) (h : Rd w g s) (hs : s.size ≤ 9000000000000000000) (h1 : 1 ≤ sz) (h4 : sz ≤ 4) (hle : sz ≤ s.size) (hn : (s.size : Int) - sz < beV ((bsOf s).take sz)) :
    Calls Try.prog 15 #[.pointer (some ⟨g, 0, none⟩), .int .i64 sz] w (RdP (.tuple #[.string ByteArray.empty, .bool false]) g s w) := by
  have c0 := Blk.cell h 0
  have HT := Av.mk (Take_yes g s sz w h hs h1 h4 hle)
  have H := Av.mk h
  simp at c0
  clear h
  go_enter Try.func15, Try.ntmps15
  go_wp2_with fail
  refine HT.out.mono ?_
  rintro e w1 ⟨rfl, hr, hk⟩
  have d0 := Blk.cell hr 0
  have fz := Blk.frozen hr 0
  have hlt := Blk.lt hr
  have HR := Av.mk hr
  have HK := Av.mk hk
  simp at d0
  have hn2 : ((s.size - sz : Nat) : Int) < beV ((bsOf s).take sz) := by omega
  clear hr hk hn
  go_wp2
  go_ret2
  exact ⟨rfl, by simpa [Rd] using Blk.set_ HR.out 0 (.string s), HK.out.setCell (p := ⟨g, 0, none⟩) (fun _ => rfl) _⟩

set_option maxHeartbeats 400000 in
theorem RText_yes (g : Nat) (s : ByteArray) (sz n : Nat) (w : World) (h : Rd w g s) (hs : s.size ≤ 9000000000000000000) (h1 : 1 ≤ sz) (h4 : sz ≤ 4) (hle : sz ≤ s.size) (hn : beV ((bsOf s).take sz) = n) (hnn : n ≤ s.size - sz) :
    Calls Try.prog 15 #[.pointer (some ⟨g, 0, none⟩), .int .i64 sz] w (RdP (.tuple #[.string ((s.extract sz s.size).extract 0 n), .bool true]) g ((s.extract sz s.size).extract n (s.size - sz)) w) := by
  have c0 := Blk.cell h 0
  have HT := Av.mk (Take_yes g s sz w h hs h1 h4 hle)
  rw [hn] at HT
  have H := Av.mk h
  simp at c0
  clear h hn
  go_enter Try.func15, Try.ntmps15
  go_wp2_with fail
  refine HT.out.mono ?_
  rintro e w1 ⟨rfl, hr, hk⟩
  have d0 := Blk.cell hr 0
  have fz := Blk.frozen hr 0
  have hlt := Blk.lt hr
  have HR := Av.mk hr
  have HK := Av.mk hk
  simp at d0
  clear hr hk
  go_wp2
  go_ret2
  exact ⟨rfl, by simpa [Rd] using Blk.set_ HR.out 0 (.string ((s.extract sz s.size).extract n (s.size - sz))), HK.out.setCell (p := ⟨g, 0, none⟩) (fun _ => rfl) _⟩

/-! ### the reference -/
theorem div_pow (n : Int) (k : Nat) : n / 256 ^ k / 256 = n / 256 ^ (k + 1) := by
  rw [Int.pow_succ, Int.ediv_ediv_of_nonneg (Int.le_of_lt (Int.pow_pos (by decide)))]

set_option maxHeartbeats 400000 in
theorem Fits_calls (n sz : Int) (w : World) (hn : n ≤ 9223372036854775807) : Calls Try.prog 7 #[.int .i64 n, .int .i64 sz] w (Same (.bool (decide (fits n sz))) w) := by
  by_cases h1 : sz < 1
  · have hf : decide (fits n sz) = false := decide_eq_false (fun h => by have := h.1; omega)
    rw [hf]
    go_enter Try.func7, Try.ntmps7
    go_wp2
    go_ret
    exact ⟨rfl, rfl⟩
  by_cases h2 : 4 < sz
  · have hf : decide (fits n sz) = false := decide_eq_false (fun h => by have := h.2.1; omega)
    rw [hf]
    go_enter Try.func7, Try.ntmps7
    go_wp2
    go_ret
    exact ⟨rfl, rfl⟩
  by_cases h3 : n < 0
  · have hf : decide (fits n sz) = false := decide_eq_false (fun h => by have := h.2.2.1; omega)
    rw [hf]
    go_enter Try.func7, Try.ntmps7
    go_wp2
    go_ret
    exact ⟨rfl, rfl⟩
  obtain ⟨k, rfl⟩ : ∃ k : Nat, sz = k := ⟨sz.toNat, by omega⟩
  have hF := Av.mk (show decide (fits n k) = (n / 256 ^ k == 0) from by
    have hp : (0 : Int) < 256 ^ k := Int.pow_pos (by decide)
    have key : decide (fits n k) = decide (n / 256 ^ k = 0) := decide_eq_decide.2 ⟨fun h => by
      obtain ⟨_, _, h0, hlt⟩ := h
      rw [Int.toNat_natCast] at hlt
      exact Int.ediv_eq_zero_of_lt h0 hlt, fun h0 => by
      refine ⟨by omega, by omega, by omega, ?_⟩
      rw [Int.toNat_natCast]
      have e1 := Int.emod_add_mul_ediv n (256 ^ k)
      rw [h0] at e1
      have e2 := Int.emod_lt_of_pos n hp
      omega⟩
    rw [key]
    rfl)
  have g1 : 1 ≤ k := by omega
  have g2 : k ≤ 4 := by omega
  have g3 : 0 ≤ n := by omega
  clear h1 h2 h3
  rw [hF.out]
  go_enter Try.func7, Try.ntmps7
  go_wp2
  go_loop [0, 5] (fun x i => ∃ j : Nat, j ≤ k ∧ i = .int .i64 j ∧ x = .int .i64 (n / 256 ^ j)) (fun _ i => k - (intOf i).toNat)
  case atStart => exact ⟨0, Nat.zero_le _, rfl, by simp⟩
  case round =>
    obtain ⟨j, hj, rfl, rfl⟩ := hrel
    have hp := Int.ediv_nonneg g3 (show (0 : Int) ≤ 256 ^ j from Int.le_of_lt (Int.pow_pos (by decide)))
    have hq : n / 256 ^ j ≤ n := Int.ediv_le_self _ g3
    have X := Av.mk (div_pow n j)
    by_cases hlt : j < k
    · go_wp2
      go_round
      case rel => exact ⟨j + 1, by omega, by go_num, by rw [← X.out]⟩
      case measure => simp [intOf]; omega
    · obtain rfl : j = k := by omega
      go_wp2
      go_ret
      exact ⟨rfl, rfl⟩

set_option maxHeartbeats 400000 in
theorem GetR_calls (s : ByteArray) (w : World) (hs : s.size ≤ 4) : Calls Try.prog 13 #[.string s] w (Same (.int .i64 (beV (bsOf s))) w) := by
  go_enter Try.func13, Try.ntmps13
  go_wp2
  go_loop [3, 4] (fun n i => ∃ k : Nat, k ≤ s.size ∧ i = .int .i64 k ∧ n = .int .i64 (beV ((bsOf s).take k))) (fun _ i => s.size - (intOf i).toNat)
  case atStart => exact ⟨0, Nat.zero_le _, rfl, rfl⟩
  case round =>
    obtain ⟨k, hk, rfl, rfl⟩ := hrel
    by_cases hkl : k < s.size
    · have hb := beV_bound k ((bsOf s).take k) (by rw [List.length_take, bsOf_length]; omega)
      have hp : (256 : Int) ^ k ≤ 16777216 := by
        have : k = 0 ∨ k = 1 ∨ k = 2 ∨ k = 3 := by omega
        rcases this with rfl | rfl | rfl | rfl <;> decide
      have X := Av.mk (show beV ((bsOf s).take (k + 1)) = beV ((bsOf s).take k) * 256 + (s[k].toNat : Int) from by
        rw [take_snoc s k hkl, beV_snoc])
      have hb1 : 0 ≤ beV ((bsOf s).take k) := hb.1
      have hb2 : beV ((bsOf s).take k) < 16777216 := by omega
      have hb3 : (s[k].toNat : Int) < 256 := by have := s[k].toNat_lt; omega
      clear hb hp
      go_wp2
      go_round
      case rel => exact ⟨k + 1, by omega, by go_num, by rw [X.out]⟩
      case measure => simp [intOf]; omega
    · obtain rfl : k = s.size := by omega
      go_wp2
      go_ret
      exact ⟨by rw [List.take_of_length_le (by rw [bsOf_length]; exact Nat.le_refl _)]; rfl, rfl⟩


theorem be_get (n : Int) : ∀ (sz j : Nat), j < sz → (be n sz)[j]? = some (UInt8.ofNat (n / 256 ^ (sz - 1 - j) % 256).toNat)
  | 0, j, h => absurd h (by omega)
  | sz + 1, 0, _ => by simp [be]
  | sz + 1, j + 1, h => by
    simp only [be, List.getElem?_cons_succ]
    rw [be_get n sz j (by omega)]
    rw [show sz + 1 - 1 - (j + 1) = sz - 1 - j by omega]
theorem be_drop (n : Int) (sz k : Nat) (h : k < sz) : (be n sz).drop k = UInt8.ofNat (n / 256 ^ (sz - (k + 1)) % 256).toNat :: (be n sz).drop (k + 1) := by
  have hl : k < (be n sz).length := by rw [be_length]; exact h
  rw [List.drop_eq_getElem_cons hl]
  congr 1
  have := be_get n sz k h
  rw [List.getElem?_eq_getElem hl] at this
  rw [Option.some.inj this, show sz - 1 - k = sz - (k + 1) by omega]
theorem u8_of {m : Int} (h0 : 0 ≤ m) (h1 : m < 256) : Value.int .u8 m = u8 (UInt8.ofNat m.toNat) := by
  unfold u8
  have : ((UInt8.ofNat m.toNat).toNat : Int) = m := by
    rw [UInt8.toNat_ofNat']
    omega
  rw [this]
theorem set_drop {α : Type} (xs : List α) (k : Nat) (x : α) (h : k < xs.length) : (xs.set k x).drop k = x :: xs.drop (k + 1) := by
  rw [List.drop_set]
  simp
  rw [List.drop_eq_getElem_cons h]
  rfl

set_option maxHeartbeats 400000 in
theorem PutR_calls (s : ByteArray) (n : Int) (sz : Nat) (w : World) (h1 : 1 ≤ sz) (h4 : sz ≤ 4) (hn0 : 0 ≤ n) (hn1 : n ≤ 9223372036854775807) (hs : s.size ≤ 1000000) :
    Calls Try.prog 8 #[.string s, .int .i64 n, .int .i64 sz] w (RetB (.string (s ++ stOf (be n sz))) w) := by
  obtain ⟨i0, hi, hz0, hz1, hz2⟩ := info_parts Try.info5
  have I := Av.mk (And.intro hi (And.intro hz0 (And.intro hz1 hz2)))
  clear hi hz0 hz1 hz2
  go_enter Try.func8, Try.ntmps8
  go_wp2_with (first | (at_make; refine wpList_make_full _ rfl _ _ 24 rfl w.heap.size 5 i0 (.int .u8 0) 1 Try.underlying24 I.out.1 I.out.2.1 I.out.2.2.1 _ _ _ _ sz rfl rfl rfl rfl (by rw [I.out.2.2.2]; omega) (by unfold maxLen; omega) (Nat.le_refl _) ?_; intro w1 hown1 hgrow1; have HO := Av.mk hown1; have HG := Av.mk hgrow1; clear hown1 hgrow1))
  go_loopw [1, 8] (fun x i wr => ∃ (k : Nat) (xs : List Value), k ≤ sz ∧ i = .int .i64 ((k : Int) - 1) ∧ x = .int .i64 (n / 256 ^ (sz - k)) ∧
    wr.ownsRow w.heap.size 5 1 (.slice (some ⟨w.heap.size, 0, none⟩) sz sz) sz xs ∧ xs.drop k = ((be n sz).drop k).map u8 ∧ Below w.heap.size w wr) (fun _ i _ => (intOf i + 1).toNat)
  case atStart => exact ⟨sz, _, Nat.le_refl _, rfl, by simp, HO.out, by
      rw [List.drop_of_length_le (by have := HO.out.1; omega), List.drop_of_length_le (by rw [be_length]; exact Nat.le_refl _)]; rfl, (Below.refl _ w).grown HG.out (Nat.le_refl _) (by simp)⟩
  case round =>
    obtain ⟨k, xs, hk, rfl, rfl, hown, hxs, hb⟩ := hrel
    have HW := Av.mk hown
    have HX := Av.mk hxs
    have HB := Av.mk hb
    clear hown hxs hb
    rcases k with _ | k
    · have hc := run_conv_row (w := wr) (base := w.heap.size) (bs := be n sz) (v := .slice (some ⟨w.heap.size, 0, none⟩) sz sz) Try.underlying24 Try.underlying5 Try.underlying9 (by
        have := HX.out
        simp at this
        rw [← this, be_length]
        exact HW.out)
      have hle : s.size + (stOf (be n sz)).size ≤ 9223372036854775807 := by
        have : (stOf (be n sz)).size = sz := by show (be n sz).length = sz; exact be_length n sz
        omega
      go_wp2
      go_ret
      exact ⟨rfl, HB.out⟩
    · have ek : (((k + 1 : Nat) : Int) - 1) = k := by omega
      rw [ek]
      have hlen : xs.length = sz := by have := HW.out.1; omega
      have c0 : wr.cell? ⟨w.heap.size, k, none⟩ = some (xs[k]'(by omega)) := by
        rw [HW.out.cellAt k (by omega), List.getElem?_eq_getElem]
      have f0 := HW.out.frozenAt k
      have hp : 0 ≤ n / 256 ^ (sz - (k + 1)) := Int.ediv_nonneg hn0 (Int.le_of_lt (Int.pow_pos (by decide)))
      have hq : n / 256 ^ (sz - (k + 1)) ≤ n := Int.ediv_le_self _ hn0
      have X := Av.mk (div_pow n (sz - (k + 1)))
      have hln := HW.out
      generalize hm : n / 256 ^ (sz - (k + 1)) = m at *
      have HM := Av.mk hm
      clear hm ek hln
      go_wp2
      go_roundw
      case rel =>
        refine ⟨k, xs.set k (.int .u8 (m % 256)), by omega, rfl, ?_, (HW.out.stored k _).1, ?_, HB.out.setCell (p := ⟨w.heap.size, k, none⟩) (Nat.le_refl _) _⟩
        · rw [X.out, show sz - (k + 1) + 1 = sz - k by omega]
        · rw [set_drop xs k _ (by omega), HX.out, be_drop n sz k (by omega), List.map_cons, HM.out, u8_of (Int.emod_nonneg _ (by decide)) (Int.emod_lt_of_pos _ (by decide))]
      case measure => simp [intOf]

end Go.Proofs.Ytlajflcfpommoaa
