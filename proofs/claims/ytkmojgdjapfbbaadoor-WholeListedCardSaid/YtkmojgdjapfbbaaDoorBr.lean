/- branch: a table of nodes, plainly and in memory. -/
import Derived.Test.YtkmojgdjapfbbaaDoorAl
import Derived.Test.YtkmojgdjapfbbaaDoorFw
namespace Go.Proofs.YtkmojgdjapfbbaaDoor
open Go.RowKit Go.Maps
set_option linter.unusedSimpArgs false
set_option linter.unusedVariables false

/-- A node of a branch. -/
structure Ino where
  kind : Int
  opq : Bool
  names : List ByteArray
  size : Int
  target : ByteArray
  ids : List Nat
def Ino.zero : Ino := ⟨0, false, [], 0, ⟨#[]⟩, []⟩
def T.idsL (n : Nat) : List T → List Nat
  | [] => []
  | t :: l => n :: T.idsL (n + t.count) l
mutual
/-- A tree's nodes, the root's number being n. -/
def T.rows (n : Nat) : T → List Ino
  | .node k o ns its sz ex tg => ⟨k, o, ns, sz, tg, T.idsL (n + 1) its⟩ :: T.rowsL (n + 1) its
def T.rowsL (n : Nat) : List T → List Ino
  | [] => []
  | t :: l => T.rows n t ++ T.rowsL (n + t.count) l
end
theorem T.idsL_snoc (l : List T) : ∀ (n : Nat) (t : T), T.idsL n (l ++ [t]) = T.idsL n l ++ [n + T.countL l] := by
  induction l with
  | nil => intro n t; simp [T.idsL, T.countL]
  | cons x l ih => intro n t; simp [T.idsL, T.countL, ih]; omega
theorem T.rowsL_snoc (l : List T) : ∀ (n : Nat) (t : T), T.rowsL n (l ++ [t]) = T.rowsL n l ++ T.rows (n + T.countL l) t := by
  induction l with
  | nil => intro n t; simp [T.rowsL, T.countL]
  | cons x l ih => intro n t; simp [T.rowsL, T.countL, ih, Nat.add_assoc]
theorem T.idsL_len (l : List T) : ∀ n : Nat, (T.idsL n l).length = l.length := by
  induction l with
  | nil => intro n; rfl
  | cons x l ih => intro n; simp [T.idsL, ih]
theorem T.rows_len (t : T) : ∀ n : Nat, (T.rows n t).length = t.count := by
  induction t using T.ind with
  | h t ih =>
    intro n
    obtain ⟨k, o, ns, its, sz, ex, tg⟩ := t
    have : ∀ l : List T, (∀ u ∈ l, ∀ n : Nat, (T.rows n u).length = u.count) → ∀ n, (T.rowsL n l).length = T.countL l := by
      intro l
      induction l with
      | nil => intro _ n; rfl
      | cons x l ih2 =>
        intro h n
        simp only [T.rowsL, T.countL, List.length_append]
        rw [h x (by simp), ih2 (fun u hu => h u (List.mem_cons_of_mem _ hu))]
    simp only [T.rows, T.count, List.length_cons]
    rw [this its ih]
    omega
theorem T.rowsL_take {l : List T} {j : Nat} {u : T} (h : l[j]? = some u) (n : Nat) : T.rowsL n (l.take (j + 1)) = T.rowsL n (l.take j) ++ T.rows (n + T.countL (l.take j)) u := by
  rw [List.take_add_one, h, Option.toList_some, T.rowsL_snoc]
theorem T.idsL_take {l : List T} {j : Nat} {u : T} (h : l[j]? = some u) (n : Nat) : T.idsL n (l.take (j + 1)) = T.idsL n (l.take j) ++ [n + T.countL (l.take j)] := by
  rw [List.take_add_one, h, Option.toList_some, T.idsL_snoc]
/-- Where a row's parts lie. -/
structure RV where
  nv : Value
  ev : Value
  iv : Value
def inoC (x : RV × Ino) : List Value := [.int .i64 x.2.kind, .bool x.2.opq, x.1.nv, .slice none 0 0, .int .i64 x.2.size, x.1.ev, .string x.2.target, x.1.iv]
def zeroR : RV × Ino := (⟨.slice none 0 0, .slice none 0 0, .slice none 0 0⟩, Ino.zero)
/-- What a row leads to; the numbers lie in blocks of C. -/
structure RowAt (C : Nat → Prop) (w : World) (x : RV × Ino) : Prop where
  names : Sl (IsT w 9) w 1 x.1.nv x.2.names.length (x.2.names.map Value.string)
  ids : Sl (fun k => IsT w 3 k ∧ C k) w 1 x.1.iv x.2.ids.length (x.2.ids.map fun n : Nat => Value.int .i64 (n : Int))
  exts : ∃ A n c, x.1.ev = .slice A n c
theorem Sl.keepT {S : Nat → Prop} {w w' : World} {e : TypeId} {size n : Nat} {v : Value} {cs : List Value} (h : Sl (IsT w e) w size v n cs) (hk : Keep S w w') (hS : ∀ k, IsT w e k → ¬ S k) : Sl (IsT w' e) w' size v n cs := by
  have h2 : Sl (fun k => IsT w e k ∧ IsT w' e k) w size v n cs := h.mono (fun k hk' => ⟨hk', hk'.keep hk (hS k hk')⟩)
  exact (h2.keep hk (fun k hk' => hS k hk'.1)).mono (fun k hk' => hk'.2)
theorem Sl.keepC {S C : Nat → Prop} {w w' : World} {e : TypeId} {size n : Nat} {v : Value} {cs : List Value} (h : Sl (fun k => IsT w e k ∧ C k) w size v n cs) (hk : Keep S w w') (hS : ∀ k, IsT w e k → C k → ¬ S k) : Sl (fun k => IsT w' e k ∧ C k) w' size v n cs := by
  have h2 : Sl (fun k => (IsT w e k ∧ C k) ∧ IsT w' e k) w size v n cs := h.mono (fun k hk' => ⟨hk', hk'.1.keep hk (hS k hk'.1 hk'.2)⟩)
  exact (h2.keep hk (fun k hk' => hS k hk'.1.1 hk'.1.2)).mono (fun k hk' => ⟨hk'.2, hk'.1.2⟩)
theorem RowAt.keep {S C : Nat → Prop} {w w' : World} {x : RV × Ino} (h : RowAt C w x) (hk : Keep S w w') (hS : ∀ k, IsT w 9 k → ¬ S k) (h3 : ∀ k, IsT w 3 k → C k → ¬ S k) : RowAt C w' x :=
  ⟨h.names.keepT hk hS, h.ids.keepC hk h3, h.exts⟩
theorem RowAt.grow {C : Nat → Prop} {w w' : World} {x : RV × Ino} (h : RowAt C w x) (hb : Below w.heap.size w w') : RowAt C w' x := h.keep (S := fun _ => False) (Keep.of_below hb) (fun _ _ => id) (fun _ _ _ => id)
theorem RowAt.mono {C C' : Nat → Prop} {w : World} {x : RV × Ino} (h : RowAt C w x) (hC : ∀ k, C k → k < w.heap.size → C' k) : RowAt C' w x :=
  ⟨h.names, h.ids.bound.mono (fun k hk => ⟨hk.1.1, hC k hk.1.2 hk.2⟩), h.exts⟩
theorem zeroR_at (C : Nat → Prop) (w : World) : RowAt C w zeroR := ⟨Sl.nil _ _ _ none 0, Sl.nil _ _ _ none 0, ⟨none, 0, 0, rfl⟩⟩
theorem inoC_len (x : RV × Ino) : (inoC x).length = 8 := rfl
theorem RowAt.one {C : Nat → Prop} {w : World} {x : RV × Ino} (h : RowAt C w x) : ∀ v ∈ inoC x, v.oneCell' = true := by
  obtain ⟨A1, c1, h1⟩ := h.names.shape
  obtain ⟨A2, c2, h2⟩ := h.ids.shape
  obtain ⟨A3, n3, c3, h3⟩ := h.exts
  intro v hv
  simp only [inoC, List.mem_cons, List.not_mem_nil, or_false, h1, h2, h3] at hv
  rcases hv with rfl | rfl | rfl | rfl | rfl | rfl | rfl | rfl <;> rfl
theorem info135 : ∃ i, Tryd.prog.info? 135 = some i ∧ i.zero = some (.agg #[.int .i64 0, .bool false, .slice none 0 0, .slice none 0 0, .int .i64 0, .slice none 0 0, .string ⟨#[]⟩, .slice none 0 0]) ∧ i.size = 8 ∧ i.bytes = 136 := by
  have h : (Tryd.prog.info? 135).map (fun i => (i.zero, i.size, i.bytes)) = some (some (.agg #[.int .i64 0, .bool false, .slice none 0 0, .slice none 0 0, .int .i64 0, .slice none 0 0, .string ⟨#[]⟩, .slice none 0 0]), 8, 136) := by kernel_rfl
  obtain ⟨i, hi, e⟩ := Option.map_eq_some_iff.1 h
  simp only [Prod.mk.injEq] at e
  exact ⟨i, hi, e.1, e.2.1, e.2.2⟩
theorem info3 : ∃ i, Tryd.prog.info? 3 = some i ∧ i.zero = some (.int .i64 0) ∧ i.size = 1 ∧ i.bytes = 8 := by
  have h : (Tryd.prog.info? 3).map (fun i => (i.zero, i.size, i.bytes)) = some (some (.int .i64 0), 1, 8) := by kernel_rfl
  obtain ⟨i, hi, e⟩ := Option.map_eq_some_iff.1 h
  simp only [Prod.mk.injEq] at e
  exact ⟨i, hi, e.1, e.2.1, e.2.2⟩
/-- A row filled in. -/
theorem rows_fill (rows new : List (RV × Ino)) (z x : RV × Ino) : ((rows ++ z :: new).flatMap inoC).take (rows.length * 8) ++ inoC x ++ ((rows ++ z :: new).flatMap inoC).drop (rows.length * 8 + 8) = (rows ++ x :: new).flatMap inoC := by
  have hl := flat_length inoC 8 inoC_len rows
  rw [List.flatMap_append, List.flatMap_append, List.flatMap_cons, List.flatMap_cons, List.take_append_of_le_length (by omega), List.take_of_length_le (by omega), ← List.append_assoc, List.drop_append_of_le_length (by rw [List.length_append, hl, inoC_len]; omega), List.drop_of_length_le (by rw [List.length_append, hl, inoC_len]; omega)]
  simp
end Go.Proofs.YtkmojgdjapfbbaaDoor
