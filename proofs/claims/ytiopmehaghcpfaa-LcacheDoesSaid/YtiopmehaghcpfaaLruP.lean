/- Caches of internal/lru: their shape in the memory, and lists (no program in sight). -/
import Derived.Test.YtiopmehaghcpfaaRow
namespace Go.Proofs.Ytiopmehaghcpfaa
open Go.RowKit Go.Maps

theorem Keep.andThen {S S' : Nat → Prop} {a b c : World} (h : Keep S a b) (k : Keep S' b c) (hs : ∀ i, i < a.heap.size → S' i → S i) : Keep S a c :=
  ⟨k.os.trans h.os, k.tape.trans h.tape, k.output.trans h.output, Nat.le_trans h.size k.size,
   fun i hi hn => (k.block i (Nat.lt_of_lt_of_le hi h.size) (fun h' => hn (hs i hi h'))).trans (h.block i hi hn)⟩

theorem loop_toList (bs : ByteArray) : ∀ (n i : Nat) (r : List UInt8), bs.size - i = n → ByteArray.toList.loop bs i r = r.reverse ++ bs.data.toList.drop i := by
  intro n
  induction n with
  | zero =>
    intro i r h
    unfold ByteArray.toList.loop
    have h2 : bs.data.toList.length ≤ i := by simp; have : bs.data.size = bs.size := rfl; omega
    rw [if_neg (by omega), List.drop_of_length_le h2]; simp
  | succ n ih =>
    intro i r h
    unfold ByteArray.toList.loop
    have hlt : i < bs.data.toList.length := by simp; have : bs.data.size = bs.size := rfl; omega
    rw [if_pos (by omega), ih (i+1) _ (by omega), List.drop_eq_getElem_cons hlt]
    have : bs.get! i = bs.data.toList[i] := by
      have h2 : i < bs.data.size := by simpa using hlt
      show bs.data[i]! = _
      rw [getElem!_pos bs.data i h2]; simp
    rw [this]; simp
theorem toList_eq (bs : ByteArray) : bs.toList = bs.data.toList := by
  unfold ByteArray.toList
  rw [loop_toList bs _ 0 [] rfl]; simp
theorem toList_inj {a b : ByteArray} (h : a.toList = b.toList) : a = b := by
  rw [toList_eq, toList_eq] at h
  cases a; cases b
  simpa using h
theorem eqB_not {a b : ByteArray} (h : a ≠ b) : (a.toList == b.toList) = false := by
  simp only [beq_eq_false_iff_ne]
  exact fun e => h (toList_inj e)
theorem eqB_yes {a b : ByteArray} (h : a = b) : (a.toList == b.toList) = true := by simp [h]

theorem flat_len {α β : Type} (cs : α → List β) (sz : Nat) (h : ∀ x, (cs x).length = sz) (l : List α) : (l.flatMap cs).length = l.length * sz := by
  induction l with
  | nil => simp
  | cons x l ih => simp [h, ih, Nat.add_mul, Nat.add_comm]
theorem flat_take {α β : Type} (cs : α → List β) (sz : Nat) (h : ∀ x, (cs x).length = sz) (l : List α) (n : Nat) : (l.flatMap cs).take (n * sz) = (l.take n).flatMap cs := by
  induction l generalizing n with
  | nil => simp
  | cons x l ih =>
    cases n with
    | zero => simp
    | succ n =>
      rw [List.flatMap_cons, List.take_succ_cons, List.flatMap_cons, List.take_append, h, List.take_of_length_le (by rw [h, Nat.add_mul]; omega), ← ih]
      congr 2
      rw [Nat.add_mul]; omega
theorem flat_drop {α β : Type} (cs : α → List β) (sz : Nat) (h : ∀ x, (cs x).length = sz) (l : List α) (n : Nat) : (l.flatMap cs).drop (n * sz) = (l.drop n).flatMap cs := by
  induction l generalizing n with
  | nil => simp
  | cons x l ih =>
    cases n with
    | zero => simp
    | succ n =>
      rw [List.flatMap_cons, List.drop_succ_cons, List.drop_append, h, List.drop_of_length_le (by rw [h, Nat.add_mul]; omega), ← ih, List.nil_append]
      congr 1
      rw [Nat.add_mul]; omega
theorem flat_get {α β : Type} (cs : α → List β) (sz : Nat) (h : ∀ x, (cs x).length = sz) (l : List α) (i j : Nat) (hi : i < l.length) (hj : j < sz) : (l.flatMap cs)[i * sz + j]? = (cs l[i])[j]? := by
  have := flat_drop cs sz h l i
  rw [← List.getElem?_drop, this, List.drop_eq_getElem_cons hi, List.flatMap_cons, List.getElem?_append_left (by rw [h]; exact hj)]

/-- Where a slice's row lies behind a call: where it lay, or in a new block. -/
def Loc (v v' : Value) (w : World) : Prop := ∀ k, v'.ownBlock = some k → k < w.heap.size → some k = v.ownBlock
structure LruW {α : Type} (TC TP sz : Nat) (cs : α → List Value) (w : World) (base g : Nat) (room : Int) (v : Value) (l : List α) : Prop where
  blk : Blk w g TC #[.int .i64 room, v]
  row : w.ownsRow base TP sz v l.length (l.flatMap cs)
section
variable {α : Type} {TC TP sz : Nat} {cs : α → List Value} {w w' : World} {base g : Nat} {room : Int} {v : Value} {l : List α} {S : Nat → Prop}
theorem LruW.keep (h : LruW TC TP sz cs w base g room v l) (hk : Keep S w w') (hg : ¬ S g) (hr : ∀ k, v.ownBlock = some k → ¬ S k) : LruW TC TP sz cs w' base g room v l :=
  ⟨h.blk.keep hk hg, row_keep h.row hk hr⟩
theorem LruW.below (h : LruW TC TP sz cs w base g room v l) (hb : Below w.heap.size w w') : LruW TC TP sz cs w' base g room v l :=
  h.keep (S := fun _ => False) (Keep.of_below hb) (by simp) (by simp)
theorem LruW.drewN (h : LruW TC TP sz cs w base g room v l) (n : Nat) : LruW TC TP sz cs (w.drewN n) base g room v l := ⟨h.blk, h.row⟩
theorem LruW.drew (h : LruW TC TP sz cs w base g room v l) : LruW TC TP sz cs w.drew base g room v l := ⟨h.blk, h.row⟩
theorem LruW.grow {w4 : World} {o : Obj} {v' : Value} {z : α} (h : LruW TC TP sz cs w base g room v l) (hT : TC ≠ TP) (hg : (w.alloc o).grownBy w4 v.ownBlock) (ho : w4.ownsRow base TP sz v' (l.length + 1) (l.flatMap cs ++ cs z))
    (hl : v'.ownBlock = v.ownBlock ∨ v'.ownBlock = some (w.alloc o).heap.size) :
    LruW TC TP sz cs (w4.setCell ⟨g, 1, none⟩ v') base g room v' (l ++ [z]) ∧ Keep (fun k => k = g ∨ some k = v.ownBlock) w (w4.setCell ⟨g, 1, none⟩ v') ∧ Loc v v' w := by
  have hb4 : Blk w4 g TC #[.int .i64 room, v] := (h.blk.alloc o).grown hg (row_ne h.row h.blk hT)
  refine ⟨⟨by simpa using hb4.set_ 1 v', ?_⟩, ?_, ?_⟩
  · have := row_keep (S := fun k => k = g) ho ((Keep.refl (fun k => k = g) w4).setCell (p := ⟨g, 1, none⟩) (fun _ => rfl) v') (fun k hk hkg => row_ne ho hb4 hT (by rw [hk, hkg]))
    simpa [List.flatMap_append] using this
  · exact (((Keep.refl _ w).alloc o).grown hg (fun k hk _ => .inr hk.symm)).setCell (p := ⟨g, 1, none⟩) (fun _ => .inl rfl) v'
  · intro k hk hlt
    rcases hl with e | e
    · rw [← e, hk]
    · rw [e] at hk
      simp at hk
      omega
theorem LruW.shape (h : LruW TC TP sz cs w base g room v l) : ∃ A c, v = .slice A l.length c := own_slice h.row
theorem LruW.shape1 (h : LruW TC TP sz cs w base g room v l) (hl : 0 < l.length) (e : TP ≠ TC) : ∃ r c, v = .slice (some ⟨r, 0, none⟩) l.length c ∧ g ≠ r ∧ r < w.heap.size ∧ l.length ≤ c := by
  rcases h.row.2 with ⟨rfl, h0⟩ | ⟨r, cap, cur, rfl, hb, hh, hc, _⟩
  · omega
  · refine ⟨r, cap, rfl, ?_, (Array.getElem?_eq_some_iff.1 hh).1, hc⟩
    rintro rfl
    have := h.blk
    unfold Blk at this
    rw [this] at hh
    injection hh with hh
    injection hh with _ ht
    exact e ht.symm
theorem LruW.cell {r cap : Nat} (h : LruW TC TP sz cs w base g room (.slice (some ⟨r, 0, none⟩) l.length cap) l) (hcs : ∀ x, (cs x).length = sz) (i : Nat) (hi : i < l.length) (j : Nat) (hj : j < sz) :
    w.cell? ⟨r, i * sz + j, none⟩ = (cs l[i])[j]? := by
  have : i * sz + j < l.length * sz := by
    have := Nat.mul_le_mul_right sz (show i + 1 ≤ l.length by omega)
    rw [Nat.add_mul] at this
    omega
  rw [h.row.cellAt _ this, flat_get cs sz hcs l i j hi hj]
end
theorem wf64 {a : Int} (h1 : -9223372036854775808 ≤ a) (h2 : a ≤ 9223372036854775807) : (Lit.int .i64 a).wf = true := WalkArith.wf_i64 ⟨h1, h2⟩
theorem wrapI {n : Int} (h0 : -9223372036854775808 ≤ n) (h1 : n < 9223372036854775808) : IntKind.i64.wrap n = n := by
  simp [IntKind.wrap, IntKind.bits, IntKind.signed]
  split <;> omega
/-- The cells behind 'first', in its two steps. -/
theorem first_cells {α β : Type} (cs : α → List β) (sz : Nat) (h : ∀ x, (cs x).length = sz) (l : List α) (x : α) (n : Nat) (hn : n < l.length) :
    (((l.flatMap cs).take sz ++ (l.flatMap cs).take (n * sz) ++ (l.flatMap cs).drop (sz + n * sz)).take 0 ++ cs x ++ ((l.flatMap cs).take sz ++ (l.flatMap cs).take (n * sz) ++ (l.flatMap cs).drop (sz + n * sz)).drop (0 + sz)) = (x :: l.eraseIdx n).flatMap cs := by
  have h1 : ((l.flatMap cs).take sz).length = sz := by
    rw [List.length_take, flat_len cs sz h]
    have := Nat.mul_le_mul_right sz (show 1 ≤ l.length by omega)
    omega
  rw [List.take_zero, List.nil_append, Nat.zero_add, List.append_assoc, List.drop_append, h1, List.drop_of_length_le (by omega), Nat.sub_self, List.drop_zero, List.nil_append, flat_take cs sz h,
    show sz + n * sz = (n + 1) * sz by rw [Nat.add_mul]; omega, flat_drop cs sz h, List.flatMap_cons, List.eraseIdx_eq_take_drop_succ, List.flatMap_append]
/-- Where a key lies. -/
def keyAt {κ β : Type} [DecidableEq κ] (k : κ) (l : List (κ × β)) : Nat := l.findIdx fun p => decide (p.1 = k)
/-- What 'find' answers. -/
def fnd (n len : Nat) : Int := if n < len then n else -1
theorem fnd_hit {n len : Nat} (h : n < len) : fnd n len = n := if_pos h
theorem fnd_not {n len : Nat} (h : ¬ n < len) : fnd n len = -1 := if_neg h
theorem keyAt_not {κ β : Type} [DecidableEq κ] (k : κ) (l : List (κ × β)) (i : Nat) (hi : i < keyAt k l) (hl : i < l.length) : l[i].1 ≠ k := by
  have := List.not_of_lt_findIdx (p := fun p : κ × β => decide (p.1 = k)) (xs := l) hi
  simpa using this
theorem keyAt_hit {κ β : Type} [DecidableEq κ] (k : κ) (l : List (κ × β)) (hl : keyAt k l < l.length) : (l[keyAt k l]'hl).1 = k := by
  have := List.findIdx_getElem (p := fun p : κ × β => decide (p.1 = k)) (w := hl)
  exact of_decide_eq_true this
theorem keyAt_le {κ β : Type} [DecidableEq κ] (k : κ) (l : List (κ × β)) : keyAt k l ≤ l.length := List.findIdx_le_length
end Go.Proofs.Ytiopmehaghcpfaa
