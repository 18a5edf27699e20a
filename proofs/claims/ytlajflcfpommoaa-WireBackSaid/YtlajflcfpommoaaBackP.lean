/- WireBack: the plain law: what was written is read again. -/
import Derived.Test.YtlajflcfpommoaaSpk
namespace Go.Proofs.Ytlajflcfpommoaa
open Go.RowKit Go.Maps

theorem beV_from (l : List UInt8) : ∀ a : Int, l.foldl (fun n b => n * 256 + (b.toNat : Int)) a = a * 256 ^ l.length + beV l := by
  induction l with
  | nil => intro a; simp [beV]
  | cons b l ih =>
    intro a
    unfold beV
    rw [List.foldl_cons, List.foldl_cons, ih, ih, List.length_cons, Int.pow_succ]
    rw [Int.add_mul, Int.mul_assoc, Int.mul_comm 256 (256 ^ l.length), Int.zero_mul, Int.zero_add]
    omega
theorem beV_cons (b : UInt8) (l : List UInt8) : beV (b :: l) = (b.toNat : Int) * 256 ^ l.length + beV l := by
  have := beV_from l (b.toNat : Int)
  unfold beV
  rw [List.foldl_cons, Int.zero_mul, Int.zero_add, this]
  rfl
theorem beV_be_mod (m : Nat) : ∀ k : Nat, beV (be (m : Int) k) = ((m % 256 ^ k : Nat) : Int)
  | 0 => by simp [be, beV, Nat.mod_one]
  | k + 1 => by
    have e1 : ((m : Int) / 256 ^ k % 256) = ((m / 256 ^ k % 256 : Nat) : Int) := by rw [Int.natCast_emod, Int.natCast_ediv, Int.natCast_pow]; rfl
    have e2 : (UInt8.ofNat (m / 256 ^ k % 256)).toNat = m / 256 ^ k % 256 := by
      rw [UInt8.toNat_ofNat']
      omega
    rw [be, beV_cons, be_length, beV_be_mod m k, e1, Int.toNat_natCast, e2, Nat.pow_succ, Nat.mod_mul]
    rw [Int.natCast_add, Int.natCast_mul, Int.natCast_pow, Int.mul_comm, Int.add_comm]
    rfl
theorem beV_be {n : Int} {k : Nat} (h0 : 0 ≤ n) (h1 : n < 256 ^ k) : beV (be n k) = n := by
  obtain ⟨m, rfl⟩ := Int.eq_ofNat_of_zero_le h0
  rw [beV_be_mod, Nat.mod_eq_of_lt]
  have : ((m : Nat) : Int) < ((256 ^ k : Nat) : Int) := by rw [Int.natCast_pow]; exact h1
  omega

/-- The number that is written of an item. -/
def It.num (x : It) : Int := if x.is then x.s.size else x.n
def It.enc (x : It) : List UInt8 := be x.num x.sz.toNat ++ if x.is then bsOf x.s else []
def encs (l : List It) : List UInt8 := l.flatMap It.enc
structure Okd (x : It) : Prop where
  fits : fits x.num x.sz
  short : x.s.size ≤ 1000
  wn : (Lit.int .i64 x.n).wf = true
theorem enc_le {x : It} (h : Okd x) : x.enc.length ≤ 1004 := by
  have h1 := h.fits.1
  have h2 := h.fits.2.1
  have h3 := h.short
  unfold It.enc
  split <;> simp [be_length, bsOf_length] <;> omega
theorem stOf_size (l : List UInt8) : (stOf l).size = l.length := rfl
theorem stOf_extract (l : List UInt8) (a b : Nat) : (stOf l).extract a b = stOf ((l.take b).drop a) := by
  apply ByteArray.ext
  simp [stOf, ByteArray.data_extract, List.extract_eq_take_drop, List.drop_take]
theorem ex_left (l r : List UInt8) (k : Nat) (h : l.length = k) : (stOf (l ++ r)).extract k (stOf (l ++ r)).size = stOf r := by
  rw [stOf_extract, stOf_size, List.take_length, ← h, List.drop_left]
theorem num_left {n : Int} {k : Nat} (h0 : 0 ≤ n) (h1 : n < 256 ^ k) (r : List UInt8) : beV ((bsOf (stOf (be n k ++ r))).take k) = n := by
  rw [bsOf_stOf, List.take_left' (be_length n k), beV_be h0 h1]

/-- An item as cells. -/
def It.cells (x : It) : List Value := [.int .i64 x.n, .int .i64 x.sz, .string x.s, .bool x.is]
def rowOf (l : List It) : List Value := l.flatMap It.cells
theorem rowOf_length (l : List It) : (rowOf l).length = l.length * 4 := by
  induction l with
  | nil => rfl
  | cons x l ih => rw [rowOf, List.flatMap_cons, List.length_append, ← rowOf, ih, List.length_cons]; simp [It.cells]; omega
theorem rowOf_snoc (l : List It) (x : It) : rowOf (l ++ [x]) = rowOf l ++ x.cells := by simp [rowOf]
theorem encs_snoc (l : List It) (x : It) : encs (l ++ [x]) = encs l ++ x.enc := by simp [encs]
theorem rowOf_get (l : List It) (j i : Nat) (hj : j < l.length) (hi : i < 4) : (rowOf l)[j * 4 + i]? = (l[j]).cells[i]? := by
  induction l generalizing j with
  | nil => simp at hj
  | cons x l ih =>
    rw [rowOf, List.flatMap_cons]
    have hx : x.cells.length = 4 := rfl
    rcases j with _ | j
    · rw [List.getElem?_append_left (by omega)]
      simp
    · rw [List.getElem?_append_right (by omega), hx, show (j + 1) * 4 + i - 4 = j * 4 + i by omega]
      exact ih j (by simpa using hj)
end Go.Proofs.Ytlajflcfpommoaa
