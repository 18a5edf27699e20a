/- The sums of internal/shard and of socageref14. -/
import Derived.Test.YtiopmehaghcpfaaBase
import Derived.Test.YtiopmehaghcpfaaProg
import Derived.Laws.DeepBits32
namespace Go.Proofs.Ytiopmehaghcpfaa.Fnv
open Go.RowKit

theorem bits_xor_u32 (x y : Nat) (hx : x < 4294967296) (hy : y < 4294967296) : bits .xor .u32 (x : Int) (y : Int) = ((x ^^^ y : Nat) : Int) := by
  show IntKind.u32.wrap ((BitVec.ofInt 32 (x : Int) ^^^ BitVec.ofInt 32 (y : Int)).toNat : Int) = _
  have h : x ^^^ y < 2 ^ 32 := Nat.xor_lt_two_pow (by omega) (by omega)
  rw [BitVec.toNat_xor, ofInt_u32 x (by omega), ofInt_u32 y (by omega), IntKind.wrap_u32']
  omega

/-- One step of the sum, and the sum. -/
def step (h : Nat) (b : UInt8) : Nat := ((h ^^^ b.toNat) * 16777619) % 4294967296
def sum (bs : List UInt8) : Nat := bs.foldl step 2166136261
theorem step_lt (h : Nat) (b : UInt8) : step h b < 4294967296 := Nat.mod_lt _ (by decide)
theorem foldl_lt (bs : List UInt8) (h : Nat) (hh : h < 4294967296) : bs.foldl step h < 4294967296 := by
  induction bs generalizing h with
  | nil => exact hh
  | cons b bs ih => exact ih _ (step_lt h b)
theorem sum_lt (bs : List UInt8) : sum bs < 4294967296 := foldl_lt bs _ (by decide)
theorem xor_lt (h : Nat) (b : UInt8) (hh : h < 4294967296) : h ^^^ b.toNat < 4294967296 := by
  have hb : b.toNat < 256 := b.toNat_lt
  exact Nat.xor_lt_two_pow (n := 32) (by omega) (by omega)

/-- The reference's product, round by round. -/
theorem times_odd (out a b : Nat) (h : b % 2 = 1) : ((out + a) % 4294967296 + (a + a) % 4294967296 * (b / 2)) % 4294967296 = (out + a * b) % 4294967296 := by
  have e : a * b = a + (a + a) * (b / 2) := by
    have : b = 1 + 2 * (b / 2) := by omega
    conv => lhs; rw [this]
    rw [Nat.mul_add, Nat.mul_one, ← Nat.mul_assoc, Nat.mul_comm a 2, Nat.two_mul]
  rw [e, Nat.add_mod, Nat.mul_mod, Nat.mod_mod, Nat.mod_mod, ← Nat.mul_mod, ← Nat.add_mod, Nat.add_assoc]
theorem times_even (out a b : Nat) (h : b % 2 = 0) : (out + (a + a) % 4294967296 * (b / 2)) % 4294967296 = (out + a * b) % 4294967296 := by
  have e : a * b = (a + a) * (b / 2) := by
    have : b = 2 * (b / 2) := by omega
    conv => lhs; rw [this]
    rw [← Nat.mul_assoc, Nat.mul_comm a 2, Nat.two_mul]
  rw [e, Nat.add_mod, Nat.mul_mod, Nat.mod_mod, ← Nat.mul_mod, ← Nat.add_mod]

/-- The reference's xor, bit by bit. -/
theorem xor_bit (A B i : Nat) : (A ^^^ B) % 2 ^ (i + 1) = (A ^^^ B) % 2 ^ i + if A / 2 ^ i % 2 ≠ B / 2 ^ i % 2 then 2 ^ i else 0 := by
  rw [Nat.mod_pow_succ]
  congr 1
  have h := Nat.testBit_xor A B i
  rw [Nat.testBit_eq_decide_div_mod_eq, Nat.testBit_eq_decide_div_mod_eq, Nat.testBit_eq_decide_div_mod_eq] at h
  have h0 : (A ^^^ B) / 2 ^ i % 2 = 0 ∨ (A ^^^ B) / 2 ^ i % 2 = 1 := by omega
  have h1 : A / 2 ^ i % 2 = 0 ∨ A / 2 ^ i % 2 = 1 := by omega
  have h2 : B / 2 ^ i % 2 = 0 ∨ B / 2 ^ i % 2 = 1 := by omega
  rcases h0 with h0 | h0 <;> rcases h1 with h1 | h1 <;> rcases h2 with h2 | h2 <;> simp [h0, h1, h2] at h ⊢

def Same (v : Value) (w : World) (e : Ending) (w' : World) : Prop := e = .returned v ∧ w = w'

set_option maxHeartbeats 1000000 in
theorem times_calls (A B : Nat) (w : World) (hA : A < 4294967296) (hB : B < 4294967296) : Calls Try.prog 70 #[.int .u64 A, .int .u64 B] w (Same (.int .u64 ((A * B % 4294967296 : Nat) : Int)) w) := by
  go_enter Try.func70, Try.ntmps70
  go_wp2_with fail
  go_loop [0, 1, 5] (fun x y o => ∃ a b out : Nat, a < 4294967296 ∧ b < 4294967296 ∧ out < 4294967296 ∧ x = .int .u64 a ∧ y = .int .u64 b ∧ o = .int .u64 out ∧ (out + a * b) % 4294967296 = A * B % 4294967296) (fun _ y _ => (intOf y).toNat)
  case atStart => exact ⟨A, B, 0, hA, hB, by omega, rfl, rfl, rfl, by simp⟩
  case round =>
    obtain ⟨a, b, out, ha, hb, ho, rfl, rfl, rfl, he⟩ := hrel
    have HE := Av.mk he
    clear he
    by_cases h0 : b = 0
    · subst h0
      have : out = A * B % 4294967296 := by have := HE.out; simp at this; omega
      go_wp2
      go_ret
      exact ⟨rfl, rfl⟩
    · by_cases h1 : b % 2 = 1
      · have e1 : ((b : Int) % 2) = 1 := by omega
        go_wp2_with fail
        go_round
        case rel => exact ⟨(a + a) % 4294967296, b / 2, (out + a) % 4294967296, by omega, by omega, by omega, by simp, by simp, by simp, by rw [times_odd out a b h1]; exact HE.out⟩
        case measure => simp [intOf]; omega
      · have e1 : ((b : Int) % 2) = 0 := by omega
        go_wp2_with fail
        go_round
        case rel => exact ⟨(a + a) % 4294967296, b / 2, out, by omega, by omega, by omega, by simp, by simp, rfl, by rw [times_even out a b (by omega)]; exact HE.out⟩
        case measure => simp [intOf]; omega

set_option maxHeartbeats 1000000 in
theorem xor_calls (A B : Nat) (w : World) (hA : A < 4294967296) (hB : B < 4294967296) : Calls Try.prog 71 #[.int .u64 A, .int .u64 B] w (Same (.int .u64 ((A ^^^ B : Nat) : Int)) w) := by
  have hX : (A ^^^ B) % 2 ^ 32 = A ^^^ B := Nat.mod_eq_of_lt (Nat.xor_lt_two_pow (by omega) (by omega))
  have HX := Av.mk hX
  clear hX
  go_enter Try.func71, Try.ntmps71
  go_wp2_with fail
  go_loop [0, 1, 5, 6, 7] (fun x y o t i => ∃ k a b out bit : Nat, k ≤ 32 ∧ a < 4294967296 ∧ b < 4294967296 ∧ out < 4294967296 ∧ bit ≤ 4294967296 ∧ Av (a = A / 2 ^ k ∧ b = B / 2 ^ k ∧ bit = 2 ^ k ∧ out = (A ^^^ B) % 2 ^ k) ∧ x = .int .u64 a ∧ y = .int .u64 b ∧ o = .int .u64 out ∧ t = .int .u64 bit ∧ i = .int .i64 k) (fun _ _ _ _ i => 32 - (intOf i).toNat)
  case atStart => exact ⟨0, A, B, 0, 1, by omega, hA, hB, by omega, by omega, ⟨by simp, by simp, by simp, by simp [Nat.mod_one]⟩, rfl, rfl, rfl, rfl, rfl⟩
  case round =>
    obtain ⟨k, a, b, out, bit, hk, ha, hb, ho, hbit, HS, rfl, rfl, rfl, rfl, rfl⟩ := hrel
    by_cases hlt : k < 32
    · have hb31 : bit ≤ 2147483648 := by
        rw [HS.out.2.2.1]
        exact Nat.pow_le_pow_right (show 0 < 2 by omega) (show k ≤ 31 by omega)
      have hstep : Av ((A ^^^ B) % 2 ^ (k + 1) = out + (if a % 2 ≠ b % 2 then bit else 0)) := ⟨by rw [xor_bit, HS.out.2.2.2, HS.out.1, HS.out.2.1, HS.out.2.2.1]⟩
      have hout1 : (A ^^^ B) % 2 ^ (k + 1) < 4294967296 := Nat.lt_of_lt_of_le (Nat.mod_lt _ (Nat.pow_pos (by decide))) (Nat.pow_le_pow_right (show 0 < 2 by omega) (show k + 1 ≤ 32 by omega))
      have HO1 := Av.mk hout1
      clear hout1
      by_cases hd : a % 2 = b % 2
      · have e1 : ((a : Int) % 2) = (b : Int) % 2 := by omega
        go_wp2_with fail
        have hp1 : A / 2 ^ (k + 1) = A / 2 ^ k / 2 := by rw [Nat.pow_succ, Nat.div_div_eq_div_mul]
        have hp2 : B / 2 ^ (k + 1) = B / 2 ^ k / 2 := by rw [Nat.pow_succ, Nat.div_div_eq_div_mul]
        go_round
        case rel => exact ⟨k + 1, a / 2, b / 2, out, bit * 2, by omega, by omega, by omega, by omega, by omega, ⟨by rw [hp1, HS.out.1], by rw [hp2, HS.out.2.1], by rw [HS.out.2.2.1, Nat.pow_succ], by rw [hstep.out, if_neg (by simpa using hd)]; simp⟩, by simp, by simp, by simp, by simp, by go_num⟩
        case measure => simp [intOf]; omega
      · have e1 : ¬ ((a : Int) % 2) = (b : Int) % 2 := by omega
        go_wp2_with fail
        have hp1 : A / 2 ^ (k + 1) = A / 2 ^ k / 2 := by rw [Nat.pow_succ, Nat.div_div_eq_div_mul]
        have hp2 : B / 2 ^ (k + 1) = B / 2 ^ k / 2 := by rw [Nat.pow_succ, Nat.div_div_eq_div_mul]
        go_round
        case rel => exact ⟨k + 1, a / 2, b / 2, out + bit, bit * 2, by omega, by omega, by omega, by have h1 := HO1.out; rw [hstep.out, if_pos hd] at h1; exact h1, by omega, ⟨by rw [hp1, HS.out.1], by rw [hp2, HS.out.2.1], by rw [HS.out.2.2.1, Nat.pow_succ], by rw [hstep.out, if_pos hd]⟩, by simp, by simp, by simp, by simp, by go_num⟩
        case measure => simp [intOf]; omega
    · obtain rfl : k = 32 := by omega
      have : out = A ^^^ B := by rw [HS.out.2.2.2]; exact HX.out
      subst this
      go_wp2
      go_ret
      exact ⟨rfl, rfl⟩

def bsOf (s : ByteArray) : List UInt8 := s.data.toList
theorem bsOf_length (s : ByteArray) : (bsOf s).length = s.size := by rw [bsOf, Array.length_toList]; rfl
theorem take_snoc (s : ByteArray) (k : Nat) (h : k < s.size) : (bsOf s).take (k + 1) = (bsOf s).take k ++ [s[k]] := by
  rw [List.take_succ_eq_append_getElem (by rw [bsOf_length]; exact h)]; rfl
theorem sum_snoc (s : ByteArray) (k : Nat) (h : k < s.size) : sum ((bsOf s).take (k + 1)) = ((sum ((bsOf s).take k) ^^^ s[k].toNat) * 16777619) % 4294967296 := by
  rw [take_snoc s k h, sum, sum, List.foldl_append, List.foldl_cons, List.foldl_nil, step]

set_option maxHeartbeats 1000000 in
theorem sum_calls (s : ByteArray) (w : World) (hs : s.size ≤ 9000000000000000000) : Calls Try.prog 36 #[.string s] w (Same (.int .u32 (sum (bsOf s))) w) := by
  go_enter Try.func36, Try.ntmps36
  go_wp2_with fail
  go_loop [3, 7] (fun x i => ∃ k h : Nat, k ≤ s.size ∧ i = .int .i64 k ∧ x = .int .u32 h ∧ h < 4294967296 ∧ Av (h = sum ((bsOf s).take k))) (fun _ i => s.size - (intOf i).toNat)
  case atStart => exact ⟨0, 2166136261, Nat.zero_le _, rfl, rfl, by decide, ⟨by simp [sum]⟩⟩
  case round =>
    obtain ⟨k, h, hk, rfl, rfl, hh, HS⟩ := hrel
    by_cases hlt : k < s.size
    · have hb : s[k].toNat < 256 := s[k].toNat_lt
      have hx := bits_xor_u32 h s[k].toNat hh (by omega)
      have hl := xor_lt h s[k] hh
      have HN := Av.mk (sum_snoc s k hlt)
      go_wp2_with fail
      go_round
      case rel => exact ⟨k + 1, (h ^^^ s[k].toNat) * 16777619 % 4294967296, by omega, by go_num, by simp, by omega, ⟨by rw [HN.out, ← HS.out]⟩⟩
      case measure => simp [intOf]; omega
    · obtain rfl : k = s.size := by omega
      have : h = sum (bsOf s) := by rw [HS.out, ← bsOf_length, List.take_length]
      subst this
      go_wp2
      go_ret
      exact ⟨rfl, rfl⟩

set_option maxHeartbeats 1000000 in
theorem ref_calls (s : ByteArray) (w : World) (hs : s.size ≤ 9000000000000000000) : Calls Try.prog 35 #[.string s] w (Same (.int .u64 (sum (bsOf s))) w) := by
  go_enter Try.func35, Try.ntmps35
  go_wp2_with fail
  go_loop [3, 4] (fun x i => ∃ k h : Nat, k ≤ s.size ∧ i = .int .i64 k ∧ x = .int .u64 h ∧ h < 4294967296 ∧ Av (h = sum ((bsOf s).take k))) (fun _ i => s.size - (intOf i).toNat)
  case atStart => exact ⟨0, 2166136261, Nat.zero_le _, rfl, rfl, by decide, ⟨by simp [sum]⟩⟩
  case round =>
    obtain ⟨k, h, hk, rfl, rfl, hh, HS⟩ := hrel
    by_cases hlt : k < s.size
    · have hb : s[k].toNat < 256 := s[k].toNat_lt
      have hl := xor_lt h s[k] hh
      have HN := Av.mk (sum_snoc s k hlt)
      go_wp2_with fail
      refine (xor_calls h s[k].toNat w hh (by omega)).mono ?_
      rintro e _ ⟨rfl, rfl⟩
      generalize hX : h ^^^ s[k].toNat = X at *
      go_wp2_with fail
      refine (times_calls X 16777619 w hl (by decide)).mono ?_
      rintro e _ ⟨rfl, rfl⟩
      go_wp2_with fail
      go_round
      case rel => exact ⟨k + 1, X * 16777619 % 4294967296, by omega, by go_num, rfl, by omega, ⟨by rw [HN.out, ← HS.out, hX]⟩⟩
      case measure => simp [intOf]; omega
    · obtain rfl : k = s.size := by omega
      have : h = sum (bsOf s) := by rw [HS.out, ← bsOf_length, List.take_length]
      subst this
      go_wp2
      go_ret
      exact ⟨rfl, rfl⟩
end Go.Proofs.Ytiopmehaghcpfaa.Fnv
