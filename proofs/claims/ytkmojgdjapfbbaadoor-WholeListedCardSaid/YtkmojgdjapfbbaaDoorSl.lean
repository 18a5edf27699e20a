/- A slice in memory, as it is read: its cells, and the blocks that they lie in. -/
import Derived.Test.YtkmojgdjapfbbaaDoorEx
namespace Go.Proofs.YtkmojgdjapfbbaaDoor
open Go.RowKit Go.Maps
set_option linter.unusedSimpArgs false
set_option linter.unusedVariables false

/-- A slice of n elements of so many cells, which lie in a block of B. -/
def Sl (B : Nat → Prop) (w : World) (size : Nat) (v : Value) (n : Nat) (cs : List Value) : Prop :=
  cs.length = n * size ∧ ((n = 0 ∧ ∃ A c, v = .slice A 0 c) ∨ ∃ b off c, v = .slice (some ⟨b, off, none⟩) n c ∧ n ≤ c ∧ B b ∧ b < w.heap.size ∧ ∀ i, i < n * size → w.cell? ⟨b, off + i, none⟩ = cs[i]?)
section
variable {B B' : Nat → Prop} {w w' : World} {size n : Nat} {v : Value} {cs : List Value} {S : Nat → Prop}
theorem Sl.mono (h : Sl B w size v n cs) (hB : ∀ k, B k → B' k) : Sl B' w size v n cs :=
  ⟨h.1, h.2.imp id fun ⟨b, off, c, h1, h2, h3, h4⟩ => ⟨b, off, c, h1, h2, hB b h3, h4⟩⟩
theorem Sl.keep (h : Sl B w size v n cs) (hk : Keep S w w') (hS : ∀ k, B k → ¬ S k) : Sl B w' size v n cs :=
  ⟨h.1, h.2.imp id fun ⟨b, off, c, h1, h2, h3, h4, h5⟩ => ⟨b, off, c, h1, h2, h3, Nat.lt_of_lt_of_le h4 hk.size, fun i hi => by
    rw [World.cell?_of_block (a := ⟨b, off + i, none⟩) (hk.block b h4 (hS b h3))]
    exact h5 i hi⟩⟩
theorem Sl.grow (h : Sl B w size v n cs) (hb : Below w.heap.size w w') : Sl B w' size v n cs := h.keep (S := fun _ => False) (Keep.of_below hb) (fun _ _ => id)
theorem Sl.drewN (h : Sl B w size v n cs) (m : Nat) : Sl B (w.drewN m) size v n cs := h
theorem Sl.shape (h : Sl B w size v n cs) : ∃ A c, v = .slice A n c := by
  rcases h.2 with ⟨rfl, A, c, rfl⟩ | ⟨b, off, c, rfl, _⟩
  · exact ⟨A, c, rfl⟩
  · exact ⟨_, c, rfl⟩
theorem Sl.at {A : Option Addr} {c : Nat} (h : Sl B w size (.slice A n c) n cs) (hn : 0 < n) : ∃ b off, A = some ⟨b, off, none⟩ ∧ n ≤ c ∧ B b ∧ b < w.heap.size ∧ ∀ i, i < n * size → w.cell? ⟨b, off + i, none⟩ = cs[i]? := by
  rcases h.2 with ⟨h0, _⟩ | ⟨b, off, c', e, h1, h2, h3, h4⟩
  · omega
  · cases e
    exact ⟨b, off, rfl, h1, h2, h3, h4⟩
theorem Sl.nil (B : Nat → Prop) (w : World) (size : Nat) (A : Option Addr) (c : Nat) : Sl B w size (.slice A 0 c) 0 [] := ⟨by simp, .inl ⟨rfl, A, c, rfl⟩⟩
theorem Sl.of_row {base : Nat} {e : TypeId} (h : w.ownsRow base e size v n cs) (hB : ∀ k, v.ownBlock = some k → B k) : Sl B w size v n cs := by
  refine ⟨h.1, ?_⟩
  have hlt := row_lt h
  rcases h.2 with ⟨rfl, rfl⟩ | ⟨g, cap, cur, rfl, hb, hg, hc, hm, hs, ht⟩
  · exact .inl ⟨rfl, none, 0, rfl⟩
  · refine .inr ⟨g, 0, cap, rfl, hc, hB g rfl, hlt g rfl, fun i hi => ?_⟩
    rw [cell_of_row w g _ cur e (0, 0) hg]
    have h1 : (cur.toList.take (n * size))[i]? = cs[i]? := by rw [ht]
    rw [List.getElem?_take_of_lt hi] at h1
    simpa using h1
end
/-- An extent as it comes: its place may be anything. -/
abbrev IExt := Int × ByteArray
def iC (x : IExt) : List Value := [.int .i64 x.1, .string x.2]
def iCells (E : List IExt) : List Value := E.flatMap iC
def toI (x : Ext) : IExt := (x.1, x.2)
theorem iCells_toI (E : List Ext) : iCells (E.map toI) = exCells E := by
  unfold iCells exCells
  rw [List.flatMap_map]
  rfl
/-- Elements of so many cells each, one behind the other. -/
theorem flat_at {α : Type} (f : α → List Value) (m : Nat) (hf : ∀ x, (f x).length = m) : ∀ (l : List α) (i j : Nat) (x : α), l[i]? = some x → j < m → (l.flatMap f)[i * m + j]? = (f x)[j]?
  | [], i, j, x, h, _ => by simp at h
  | y :: l, 0, j, x, h, hj => by
    obtain rfl : y = x := by simpa using h
    simp only [List.flatMap_cons, Nat.zero_mul, Nat.zero_add]
    rw [List.getElem?_append_left (by rw [hf]; exact hj)]
  | y :: l, i + 1, j, x, h, hj => by
    have h' : l[i]? = some x := by simpa using h
    have ih := flat_at f m hf l i j x h' hj
    simp only [List.flatMap_cons]
    rw [List.getElem?_append_right (by rw [hf, Nat.add_mul]; omega), hf, show (i + 1) * m + j - m = i * m + j by rw [Nat.add_mul]; omega]
    exact ih
theorem flat_length {α : Type} (f : α → List Value) (m : Nat) (hf : ∀ x, (f x).length = m) (l : List α) : (l.flatMap f).length = l.length * m := by
  induction l with
  | nil => simp
  | cons x l ih => simp [hf, ih, Nat.add_mul]; omega
theorem Sl.elem {α : Type} {B : Nat → Prop} {w : World} {m : Nat} {f : α → List Value} {l : List α} {A : Option Addr} {c : Nat} (h : Sl B w m (.slice A l.length c) l.length (l.flatMap f)) (hf : ∀ x, (f x).length = m) (hm : 0 < m) {k : Nat} {x : α} (hx : l[k]? = some x) :
    ∃ b off, A = some ⟨b, off, none⟩ ∧ B b ∧ b < w.heap.size ∧ l.length ≤ c ∧ w.cell? ⟨b, off + k * m, none⟩ = (f x)[0]? ∧ ∀ j, j < m → w.cell? ⟨b, off + k * m + j, none⟩ = (f x)[j]? := by
  have hk := (List.getElem?_eq_some_iff.1 hx).1
  obtain ⟨b, off, rfl, hc, hB, hb, hcells⟩ := h.at (by omega)
  have hall : ∀ j, j < m → w.cell? ⟨b, off + k * m + j, none⟩ = (f x)[j]? := fun j hj => by
    have h1 : k * m + j < l.length * m := by
      have := Nat.mul_le_mul_right m (show k + 1 ≤ l.length from hk)
      rw [Nat.add_mul] at this
      omega
    have := hcells (k * m + j) h1
    rw [flat_at f m hf l k j x hx hj] at this
    rw [← this, Nat.add_assoc]
  exact ⟨b, off, rfl, hB, hb, hc, by simpa using hall 0 hm, hall⟩
theorem drop_at {α : Type} {l : List α} {k : Nat} {x : α} (hx : l[k]? = some x) : l.drop k = x :: l.drop (k + 1) := by
  have hk := (List.getElem?_eq_some_iff.1 hx).1
  rw [List.drop_eq_getElem_cons hk]
  congr 1
  rw [List.getElem?_eq_getElem hk] at hx
  injection hx
/-- May these be the extents of a file of so many bytes? -/
def rX (size : Int) : Int → List IExt → Bool
  | _, [] => decide (0 ≤ size) && decide (size ≤ 1048576)
  | at_, x :: E => if x.1 < at_ ∨ x.2.size = 0 ∨ wrap64 (size - x.1) < x.2.size then false else rX size (wrap64 (x.1 + x.2.size)) E
theorem rX_of {E : List Ext} : ∀ {a e size : Nat}, Ordered a E e → e ≤ size → size ≤ 1048576 → rX size a (E.map toI) = true := by
  induction E with
  | nil => intro a e size h h1 h2; simp [rX]; omega
  | cons x E ih =>
    rintro a e size ⟨h1, h2, h3⟩ h4 h5
    have hle := h3.le
    unfold Ext.fin at hle
    have ih' := ih (size := size) h3 h4 h5
    simp only [List.map_cons, rX, toI]
    have e1 : wrap64 ((size : Int) - (x.1 : Int)) = (size : Int) - x.1 := by unfold wrap64; omega
    have e2 : wrap64 ((x.1 : Int) + (x.2.size : Int)) = ((Ext.fin x : Nat) : Int) := by unfold wrap64 Ext.fin; omega
    rw [e1, e2, if_neg (by omega)]
    exact ih'
end Go.Proofs.YtkmojgdjapfbbaaDoor
