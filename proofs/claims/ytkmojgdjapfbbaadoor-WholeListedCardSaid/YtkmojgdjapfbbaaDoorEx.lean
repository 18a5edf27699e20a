/- Extents, plainly: bytes of a file from places on, noughts in between. No program in sight. -/
import Derived.Test.YtkmojgdjapfbbaaDoorRow
import Derived.Lib.RepeatB
namespace Go.Proofs.YtkmojgdjapfbbaaDoor
open Go.RowKit Go.Maps
set_option linter.unusedSimpArgs false
set_option linter.unusedVariables false

/-- An extent: where, and its bytes. -/
abbrev Ext := Nat × ByteArray
def Ext.fin (x : Ext) : Nat := x.1 + x.2.size
def exC (x : Ext) : List Value := [.int .i64 x.1, .string x.2]
def exCells (E : List Ext) : List Value := E.flatMap exC
theorem exCells_len (E : List Ext) : (exCells E).length = E.length * 2 := by
  unfold exCells
  induction E with
  | nil => rfl
  | cons x E ih => simp [exC, ih]; omega
theorem exCells_snoc (E : List Ext) (x : Ext) : exCells (E ++ [x]) = exCells E ++ exC x := by simp [exCells]
theorem exCells_get : ∀ (E : List Ext) (i j : Nat) (x : Ext), E[i]? = some x → j < 2 → (exCells E)[i * 2 + j]? = (exC x)[j]?
  | [], i, j, x, h, _ => by simp at h
  | y :: E, 0, j, x, h, hj => by
    obtain rfl : y = x := by simpa using h
    have h1 : j < (exC y).length := by simp [exC]; omega
    simp only [exCells, List.flatMap_cons, Nat.zero_mul, Nat.zero_add]
    rw [List.getElem?_append_left h1]
  | y :: E, i + 1, j, x, h, hj => by
    have h' : E[i]? = some x := by simpa using h
    have ih := exCells_get E i j x h' hj
    have h1 : (exC y).length = 2 := rfl
    simp only [exCells, List.flatMap_cons]
    rw [List.getElem?_append_right (by rw [h1]; omega), h1, show (i + 1) * 2 + j - 2 = i * 2 + j by omega]
    exact ih
/-- They rise, none is empty, none reaches beyond an end. -/
def Ordered : Nat → List Ext → Nat → Prop
  | at_, [], e => at_ ≤ e
  | at_, x :: E, e => at_ ≤ x.1 ∧ 0 < x.2.size ∧ Ordered x.fin E e
theorem Ordered.le : ∀ {a E e}, Ordered a E e → a ≤ e
  | _, [], _, h => h
  | a, x :: E, e, ⟨h1, h2, h3⟩ => by have := Ordered.le h3; unfold Ext.fin at this; omega
theorem Ordered.mono : ∀ {a E e e'}, Ordered a E e → e ≤ e' → Ordered a E e'
  | _, [], _, _, h, h' => Nat.le_trans h h'
  | a, x :: E, e, e', ⟨h1, h2, h3⟩, h' => ⟨h1, h2, Ordered.mono h3 h'⟩
theorem Ordered.snoc : ∀ {a E e} {x : Ext}, Ordered a E e → e ≤ x.1 → 0 < x.2.size → Ordered a (E ++ [x]) x.fin
  | a, [], e, x, h, h1, h2 => ⟨Nat.le_trans h h1, h2, Nat.le_refl _⟩
  | a, y :: E, e, x, ⟨h1, h2, h3⟩, h4, h5 => ⟨h1, h2, Ordered.snoc h3 h4 h5⟩
/-- What is at a place. -/
def byteAt : List Ext → Nat → UInt8
  | [], _ => 0
  | x :: E, p => if p < x.1 then 0 else if p < x.fin then x.2.data.toList.getD (p - x.1) 0 else byteAt E p
theorem byteAt_low : ∀ {a E e p}, Ordered a E e → p < a → byteAt E p = 0
  | _, [], _, _, _, _ => rfl
  | a, x :: E, e, p, ⟨h1, _, _⟩, hp => by
    unfold byteAt
    rw [if_pos (by omega)]
theorem byteAt_snoc : ∀ {a E e p} {x : Ext}, Ordered a E e → e ≤ x.1 → byteAt (E ++ [x]) p = if p < x.1 then byteAt E p else if p < x.fin then x.2.data.toList.getD (p - x.1) 0 else 0
  | a, [], e, p, x, h, h1 => by
    simp only [List.nil_append, byteAt]
  | a, y :: E, e, p, x, ⟨h1, h2, h3⟩, h4 => by
    have ih := byteAt_snoc (p := p) h3 h4
    have hle := h3.le
    simp only [List.cons_append, byteAt]
    rw [ih]
    unfold Ext.fin at *
    split
    · rw [if_pos (by omega)]
    · split
      · rw [if_pos (by omega)]
      · rfl
/-- The extents of so many bytes. -/
structure OfInv (s : List UInt8) (i : Nat) (E : List Ext) : Prop where
  ord : Ordered 0 E (min i s.length)
  at_ : ∀ p, p < i → p < s.length → byteAt E p = s.getD p 0
theorem OfInv.nil (s : List UInt8) : OfInv s 0 [] := ⟨by simp [Ordered], fun p h => by omega⟩
/-- A nought more. -/
theorem OfInv.skip {s : List UInt8} {i : Nat} {E : List Ext} (h : OfInv s i E) (h0 : i < s.length → s.getD i 0 = 0) : OfInv s (i + 1) E := by
  refine ⟨h.ord.mono (by omega), fun p h1 h2 => ?_⟩
  rcases Nat.lt_or_ge p i with h3 | h3
  · exact h.at_ p h3 h2
  · obtain rfl : p = i := by omega
    rw [h0 h2]
    have aux : ∀ (E : List Ext) (a e : Nat), Ordered a E e → e ≤ p → byteAt E p = 0 := by
      intro E
      induction E with
      | nil => intros; rfl
      | cons x E ih =>
        rintro a e ⟨h1, h2, h3⟩ he
        have := h3.le
        unfold byteAt
        unfold Ext.fin at *
        split
        · rfl
        · rw [if_neg (by omega)]
          exact ih _ _ h3 he
    exact aux E 0 _ h.ord (by omega)
theorem OfInv.run {s : ByteArray} {i k : Nat} {E : List Ext} (h : OfInv s.data.toList i E) (hik : i < k) (hk : k ≤ s.size) : OfInv s.data.toList k (E ++ [(i, s.extract i k)]) := by
  have hlen : s.data.toList.length = s.size := Lib.size_eq s |>.symm
  have hx : (s.extract i k).data.toList = (s.data.toList.drop i).take (k - i) := by rw [Lib.extract_data]
  have hsz : (s.extract i k).size = k - i := by
    rw [Lib.size_eq, hx, List.length_take, List.length_drop]
    omega
  refine ⟨?_, fun p h1 h2 => ?_⟩
  · have := h.ord.snoc (x := (i, s.extract i k)) (by simp; omega) (by simp only; omega)
    have hf : Ext.fin (i, s.extract i k) = k := by unfold Ext.fin; simp only [hsz]; omega
    rw [hf] at this
    exact this.mono (by omega)
  · rw [byteAt_snoc h.ord (by simp; omega)]
    simp only [Ext.fin, hsz]
    split
    · exact h.at_ p (by omega) h2
    · rw [if_pos (by omega), hx]
      simp only [List.getD_eq_getElem?_getD]
      rw [List.getElem?_take_of_lt (by omega), List.getElem?_drop, show i + (p - i) = p by omega]
/-- So many bytes from a place on. -/
def bytesOf (E : List Ext) (off n : Nat) : List UInt8 := (List.range n).map fun j => byteAt E (off + j)
theorem bytesOf_len (E : List Ext) (off n : Nat) : (bytesOf E off n).length = n := by simp [bytesOf]
theorem bytesOf_add (E : List Ext) (off a b : Nat) : bytesOf E off (a + b) = bytesOf E off a ++ bytesOf E (off + a) b := by
  unfold bytesOf
  rw [List.range_add, List.map_append, List.map_map]
  congr 1
  apply List.map_congr_left
  intro j _
  simp [Nat.add_assoc]
theorem bytesOf_all {s : List UInt8} {E : List Ext} {i : Nat} (h : OfInv s i E) (hi : s.length ≤ i) : bytesOf E 0 s.length = s := by
  apply List.ext_getElem
  · simp [bytesOf]
  · intro j h1 h2
    have := h.at_ j (by omega) h2
    simp only [bytesOf, List.getElem_map, List.getElem_range, Nat.zero_add]
    rw [this, List.getD_eq_getElem?_getD, List.getElem?_eq_getElem h2]
    rfl
/-- What is read so far, and where the rest is to be looked for. -/
structure RdInv (E : List Ext) (off n k L : Nat) : Prop where
  le : L ≤ n
  rest : ∀ p, off + L ≤ p → p < off + n → byteAt E p = byteAt (E.drop k) p
theorem RdInv.start (E : List Ext) (off n : Nat) : RdInv E off n 0 0 := ⟨by omega, fun p _ _ => rfl⟩
theorem ordered_drop : ∀ {E : List Ext} {a e : Nat} (k : Nat), Ordered a E e → ∃ a', Ordered a' (E.drop k) e
  | E, a, e, 0, h => ⟨a, h⟩
  | [], a, e, k + 1, h => ⟨a, h⟩
  | x :: E, a, e, k + 1, ⟨_, _, h⟩ => ordered_drop k h
theorem byteAt_cons (x : Ext) (R : List Ext) (p : Nat) : byteAt (x :: R) p = if p < x.1 then 0 else if p < x.fin then x.2.data.toList.getD (p - x.1) 0 else byteAt R p := rfl
theorem RdInv.skip {E : List Ext} {off n k L e : Nat} {x : Ext} (h : RdInv E off n k L) (ho : Ordered 0 E e) (hx : E.drop k = x :: E.drop (k + 1)) (hge : min x.fin (off + n) ≤ max x.1 (off + L)) : RdInv E off n (k + 1) L := by
  refine ⟨h.le, fun p h1 h2 => ?_⟩
  obtain ⟨a, h3⟩ := ordered_drop k ho
  rw [h.rest p h1 h2, hx, byteAt_cons]
  rw [hx] at h3
  obtain ⟨_, _, h5⟩ := h3
  split
  · have : p < x.fin := by unfold Ext.fin; omega
    exact (byteAt_low h5 this).symm
  · split
    · omega
    · rfl
theorem bytes_gap {E : List Ext} {a m : Nat} (h : ∀ p, a ≤ p → p < a + m → byteAt E p = 0) : bytesOf E a m = List.replicate m 0 := by
  apply List.ext_getElem
  · simp [bytesOf]
  · intro j h1 h2
    simp [bytesOf] at h1
    simp only [bytesOf, List.getElem_map, List.getElem_range, List.getElem_replicate]
    exact h _ (by omega) (by omega)
theorem bytes_data {E : List Ext} {x : Ext} {a m : Nat} (hm : a + m ≤ x.fin) (ha : x.1 ≤ a) (h : ∀ p, a ≤ p → p < a + m → byteAt E p = x.2.data.toList.getD (p - x.1) 0) : bytesOf E a m = (x.2.data.toList.drop (a - x.1)).take m := by
  have hl : x.2.data.toList.length = x.2.size := (Lib.size_eq _).symm
  unfold Ext.fin at hm
  apply List.ext_getElem
  · simp [bytesOf]
    omega
  · intro j h1 h2
    simp [bytesOf] at h1
    simp only [bytesOf, List.getElem_map, List.getElem_range, List.getElem_take, List.getElem_drop]
    rw [h _ (by omega) (by omega), List.getD_eq_getElem?_getD, List.getElem?_eq_getElem (by omega)]
    simp only [Option.getD_some]
    congr 1
    omega
theorem RdInv.read {E : List Ext} {off n k L e fr tt : Nat} {x : Ext} (h : RdInv E off n k L) (ho : Ordered 0 E e) (hx : E.drop k = x :: E.drop (k + 1)) (hf : max x.1 (off + L) = fr) (ht : min x.fin (off + n) = tt) (hlt : fr < tt) :
    RdInv E off n (k + 1) (tt - off) ∧ bytesOf E off (tt - off) = bytesOf E off L ++ List.replicate (fr - off - L) 0 ++ (x.2.data.toList.drop (fr - x.1)).take (tt - fr) := by
  obtain ⟨a, h3⟩ := ordered_drop k ho
  rw [hx] at h3
  obtain ⟨_, _, h5⟩ := h3
  have hle := h.le
  refine ⟨⟨by omega, fun p h1 h2 => ?_⟩, ?_⟩
  · rw [h.rest p (by omega) h2, hx, byteAt_cons, if_neg (by omega), if_neg (by omega)]
  · rw [show tt - off = L + (fr - off - L) + (tt - fr) by omega, bytesOf_add, bytesOf_add]
    congr 1
    · congr 1
      refine bytes_gap fun p h1 h2 => ?_
      rw [h.rest p h1 (by omega), hx, byteAt_cons, if_pos (by omega)]
    · rw [show off + (L + (fr - off - L)) = fr by omega]
      refine bytes_data (by omega) (by omega) fun p h1 h2 => ?_
      rw [h.rest p (by omega) (by omega), hx, byteAt_cons, if_neg (by omega), if_pos (by omega)]
theorem RdInv.done {E : List Ext} {off n L : Nat} (h : RdInv E off n E.length L) : bytesOf E off n = bytesOf E off L ++ List.replicate (n - L) 0 := by
  have hle := h.le
  rw [show n = L + (n - L) by omega, bytesOf_add]
  congr 1
  rw [show L + (n - L) - L = n - L by omega]
  refine bytes_gap fun p h1 h2 => ?_
  rw [h.rest p h1 (by omega), List.drop_length]
  rfl
end Go.Proofs.YtkmojgdjapfbbaaDoor
