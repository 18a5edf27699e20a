/- Can there be such a tree, by the document (socageref04.Right): the plain part. -/
import Derived.Test.YtkmojgdjapfbbaaDoorSl2
import Derived.Test.YtkmojgdjapfbbaaDoorCt
import Derived.Test.YtkmojgdjapfbbaaDoorBs
namespace Go.Proofs.YtkmojgdjapfbbaaDoor
open Go.RowKit Go.Maps
set_option linter.unusedSimpArgs false
set_option linter.unusedVariables false

/-- What lies in memory takes no more than all addresses. -/
inductive Sz : T → Prop where
  | mk (t : T) (hn : t.names.length ≤ 140737488355328) (hi : t.items.length ≤ 140737488355328) (he : t.exts.length ≤ 140737488355328) (hs : ∀ s ∈ t.names, s.size ≤ 140737488355328) (hx : ∀ x ∈ t.exts, x.2.size ≤ 140737488355328) (hg : t.target.size ≤ 140737488355328) (hr : ∀ u ∈ t.items, Sz u) : Sz t
/-- Does one begin ahead of the end of the one before? -/
def prevBad : Option IExt → Int → Bool
  | none, _ => false
  | some y, off => decide (off < wrap64 (y.1 + y.2.size))
/-- The extents, one behind the other. -/
def r3 (size : Int) : Option IExt → List IExt → Bool
  | _, [] => true
  | q, x :: E => if x.1 < 0 ∨ size < x.1 ∨ x.2.size < 1 ∨ size < wrap64 (x.1 + x.2.size) then false
      else if prevBad q x.1 = true then false else r3 size (some x) E
def r3B (size : Int) (E : List IExt) : Bool := if size < 0 ∨ 1048576 < size then false else r3 size none E
def T.noneB (t : T) : Bool := !t.opq && decide (t.names.length = 0) && decide (t.items.length = 0)
def T.emptyB (t : T) : Bool := decide (t.size = 0) && decide (t.exts.length = 0)
/-- Can there be such a node, whatever is in it? -/
def T.one (t : T) : Bool :=
  if t.kind = 1 then t.noneB && t.target.toList.isEmpty && r3B t.size t.exts
  else if t.kind = 2 then t.emptyB && t.target.toList.isEmpty && t.namesOk
  else if t.kind = 3 then t.noneB && t.emptyB && splitOk t.target && decide (t.target.size ≤ 256)
  else if t.kind = 4 then t.noneB && t.emptyB && t.target.toList.isEmpty
  else false
theorem T.one_node (k : Int) (o : Bool) (ns : List ByteArray) (its : List T) (sz : Int) (ex : List IExt) (tg : ByteArray) : T.one (.node k o ns its sz ex tg) =
  if k = 1 then T.noneB (.node k o ns its sz ex tg) && tg.toList.isEmpty && r3B sz ex
  else if k = 2 then T.emptyB (.node k o ns its sz ex tg) && tg.toList.isEmpty && T.namesOk (.node k o ns its sz ex tg)
  else if k = 3 then T.noneB (.node k o ns its sz ex tg) && T.emptyB (.node k o ns its sz ex tg) && splitOk tg && decide (tg.size ≤ 256)
  else if k = 4 then T.noneB (.node k o ns its sz ex tg) && T.emptyB (.node k o ns its sz ex tg) && tg.toList.isEmpty
  else false := rfl
mutual
def T.all : T → Bool
  | .node k o ns its sz ex tg => T.allL its && T.one (.node k o ns its sz ex tg)
def T.allL : List T → Bool
  | [] => true
  | t :: l => t.all && T.allL l
end
theorem T.all_eq (t : T) : t.all = (T.allL t.items && t.one) := by cases t; rfl
theorem T.allL_mem {l : List T} (h : T.allL l = true) {u : T} (hu : u ∈ l) : u.all = true := by
  induction l with
  | nil => cases hu
  | cons x l ih =>
    simp only [T.allL, Bool.and_eq_true] at h
    rcases List.mem_cons.1 hu with rfl | hu
    · exact h.1
    · exact ih h.2 hu
mutual
def T.depth : T → Nat
  | .node _ _ _ its _ _ _ => T.depthL its
def T.depthL : List T → Nat
  | [] => 0
  | t :: l => max (t.depth + 1) (T.depthL l)
end
theorem T.depth_eq (t : T) : t.depth = T.depthL t.items := by cases t; rfl
theorem T.depth_mem {l : List T} {u : T} (hu : u ∈ l) : u.depth + 1 ≤ T.depthL l := by
  induction l with
  | nil => cases hu
  | cons x l ih =>
    simp only [T.depthL]
    rcases List.mem_cons.1 hu with rfl | hu
    · exact Nat.le_max_left _ _
    · exact Nat.le_trans (ih hu) (Nat.le_max_right _ _)
theorem T.depthL_snoc (l : List T) (t : T) : T.depthL (l ++ [t]) = max (T.depthL l) (t.depth + 1) := by
  induction l with
  | nil => simp [T.depthL]
  | cons x l ih =>
    simp only [List.cons_append, T.depthL, ih]
    omega
theorem T.depth_lt_count (t : T) : t.depth < t.count := by
  induction t using T.ind with
  | h t ih =>
    rw [T.depth_eq, T.count_eq]
    have : ∀ l : List T, (∀ u ∈ l, u.depth < u.count) → T.depthL l ≤ T.countL l := by
      intro l
      induction l with
      | nil => simp [T.depthL]
      | cons x l ih2 =>
        intro h
        have h1 := h x (by simp)
        have h2 := ih2 (fun u hu => h u (List.mem_cons_of_mem _ hu))
        simp only [T.depthL, T.countL]
        omega
    have := this _ ih
    omega
theorem T.count_le_wt (t : T) : t.count ≤ t.wt := by
  induction t using T.ind with
  | h t ih =>
    rw [T.count_eq, T.wt_eq]
    have : ∀ l : List T, (∀ u ∈ l, u.count ≤ u.wt) → T.countL l ≤ T.wtL l := by
      intro l
      induction l with
      | nil => simp [T.countL]
      | cons x l ih2 =>
        intro h
        have h1 := h x (by simp)
        have h2 := ih2 (fun u hu => h u (List.mem_cons_of_mem _ hu))
        simp only [T.countL, T.wtL]
        omega
    have := this _ ih
    omega
theorem r3_law {size : Int} (h0 : 0 ≤ size) (h1 : size ≤ 1048576) (E : List IExt) : ∀ (q : Option IExt) (at_ : Int), (∀ x ∈ E, x.2.size ≤ 140737488355328) →
    (match q with | none => at_ = 0 | some y => at_ = wrap64 (y.1 + y.2.size)) → 0 ≤ at_ → at_ ≤ size → r3 size q E = true → rX size at_ E = true ∧ (xsz E : Int) ≤ size - at_ := by
  induction E with
  | nil =>
    intro q at_ _ _ h2 h3 _
    refine ⟨?_, ?_⟩
    · simp only [rX]; simp; omega
    · simp [xsz]; omega
  | cons x E ih =>
    intro q at_ hx hq h2 h3 h
    simp only [r3] at h
    by_cases hc : x.1 < 0 ∨ size < x.1 ∨ x.2.size < 1 ∨ size < wrap64 (x.1 + x.2.size)
    · rw [if_pos hc] at h; cases h
    rw [if_neg hc] at h
    by_cases hd : prevBad q x.1 = true
    · rw [if_pos hd] at h; cases h
    rw [if_neg hd] at h
    have hsz := hx x (by simp)
    have e1 : wrap64 (x.1 + (x.2.size : Int)) = x.1 + x.2.size := by unfold wrap64; omega
    have e2 : wrap64 (size - x.1) = size - x.1 := by unfold wrap64; omega
    rw [e1] at hc
    have ha : at_ ≤ x.1 := by
      cases q with
      | none => simp only at hq; omega
      | some y => simp only [prevBad, decide_eq_true_eq] at hq hd; omega
    have ih2 := ih (some x) (x.1 + x.2.size) (fun y hy => hx y (List.mem_cons_of_mem _ hy)) (by simp only; exact e1.symm) (by omega) (by omega) h
    refine ⟨?_, ?_⟩
    · simp only [rX]
      rw [e1, e2, if_neg (by omega)]
      exact ih2.1
    · have : (xsz (x :: E) : Int) = x.2.size + xsz E := by simp [xsz]
      omega
theorem r3B_law {size : Int} {E : List IExt} (hx : ∀ x ∈ E, x.2.size ≤ 140737488355328) (h : r3B size E = true) : rX size 0 E = true ∧ xsz E ≤ 1048576 := by
  unfold r3B at h
  split at h
  · cases h
  have := r3_law (size := size) (by omega) (by omega) E none 0 hx rfl (by omega) (by omega) h
  exact ⟨this.1, by omega⟩
theorem T.noneB_iff {t : T} (h : t.noneB = true) : t.opq = false ∧ t.names.length = 0 ∧ t.items.length = 0 := by
  unfold T.noneB at h
  simp only [Bool.and_eq_true, decide_eq_true_eq, Bool.not_eq_true'] at h
  exact ⟨h.1.1, h.1.2, h.2⟩
theorem T.emptyB_iff {t : T} (h : t.emptyB = true) : t.size = 0 ∧ t.exts.length = 0 := by
  unfold T.emptyB at h
  simpa only [Bool.and_eq_true, decide_eq_true_eq] using h
/-- What is in a node that may be. -/
theorem T.one_law {t : T} (hx : ∀ x ∈ t.exts, x.2.size ≤ 140737488355328) (h : t.one = true) :
    t.zero = true ∧ xsz t.exts ≤ 1048576 ∧ (∀ s ∈ t.names, nameOk s = true) ∧
    ((t.kind = 1 ∧ t.items = [] ∧ rX t.size 0 t.exts = true) ∨ (t.kind = 2 ∧ t.namesOk = true) ∨ (t.kind = 3 ∧ t.items = [] ∧ splitOk t.target = true ∧ t.target.size ≤ 256) ∨ (t.kind = 4 ∧ t.items = [])) := by
  obtain ⟨k, o, ns, its, sz, ex, tg⟩ := t
  rw [T.one_node] at h
  simp only [T.kind, T.target, T.size, T.exts, T.names, T.items] at hx ⊢
  have hex : ex.length = 0 → xsz ex ≤ 1048576 := fun h => by
    have : ex = [] := List.length_eq_zero_iff.1 h
    subst this; simp [xsz]
  have hns : ns.length = 0 → ∀ s ∈ ns, nameOk s = true := fun h s hs => by
    have : ns = [] := List.length_eq_zero_iff.1 h
    subst this; cases hs
  by_cases hk : k = 1
  · rw [if_pos hk] at h
    subst hk
    simp only [Bool.and_eq_true] at h
    obtain ⟨⟨h1, h2⟩, h3⟩ := h
    have n1 := T.noneB_iff h1
    simp only [T.opq, T.names, T.items] at n1
    have h4 := r3B_law hx h3
    refine ⟨?_, h4.2, hns n1.2.1, .inl ⟨rfl, List.length_eq_zero_iff.1 n1.2.2, h4.1⟩⟩
    unfold T.zero zB
    simp only [T.kind, T.opq, T.names, T.items, T.size, T.exts, T.target, n1.1, n1.2.1, n1.2.2, h2]
    simp
  rw [if_neg hk] at h
  by_cases hk2 : k = 2
  · rw [if_pos hk2] at h
    subst hk2
    simp only [Bool.and_eq_true] at h
    obtain ⟨⟨h1, h2⟩, h3⟩ := h
    have n1 := T.emptyB_iff h1
    simp only [T.size, T.exts] at n1
    have h4 := h3
    unfold T.namesOk at h4
    simp only [T.names, Bool.and_eq_true] at h4
    refine ⟨?_, hex n1.2, (nmB_rising _ _ h4.1).2.1, .inr (.inl ⟨rfl, h3⟩)⟩
    unfold T.zero zB
    simp only [T.kind, T.opq, T.names, T.items, T.size, T.exts, T.target, n1.1, n1.2, h2]
    simp
  rw [if_neg hk2] at h
  by_cases hk3 : k = 3
  · rw [if_pos hk3] at h
    subst hk3
    simp only [Bool.and_eq_true, decide_eq_true_eq] at h
    obtain ⟨⟨⟨h1, h2⟩, h3⟩, h5⟩ := h
    have n1 := T.noneB_iff h1
    have n2 := T.emptyB_iff h2
    simp only [T.opq, T.names, T.items, T.size, T.exts] at n1 n2
    refine ⟨?_, hex n2.2, hns n1.2.1, .inr (.inr (.inl ⟨rfl, List.length_eq_zero_iff.1 n1.2.2, h3, h5⟩))⟩
    unfold T.zero zB
    simp only [T.kind, T.opq, T.names, T.items, T.size, T.exts, T.target, n1.1, n1.2.1, n1.2.2, n2.1, n2.2]
    simp
  rw [if_neg hk3] at h
  by_cases hk4 : k = 4
  · rw [if_pos hk4] at h
    subst hk4
    simp only [Bool.and_eq_true, decide_eq_true_eq] at h
    obtain ⟨⟨h1, h2⟩, h3⟩ := h
    have n1 := T.noneB_iff h1
    have n2 := T.emptyB_iff h2
    simp only [T.opq, T.names, T.items, T.size, T.exts] at n1 n2
    refine ⟨?_, hex n2.2, hns n1.2.1, .inr (.inr (.inr ⟨rfl, List.length_eq_zero_iff.1 n1.2.2⟩))⟩
    unfold T.zero zB
    simp only [T.kind, T.opq, T.names, T.items, T.size, T.exts, T.target, n1.1, n1.2.1, n1.2.2, n2.1, n2.2, h3]
    decide
  · rw [if_neg hk4] at h; cases h
theorem own49_exact {t : T} {left : Int} (h0 : 0 ≤ left) (h1 : left ≤ 400) (hn : t.names.length ≤ 140737488355328) (he : t.exts.length ≤ 140737488355328) (hx : xsz t.exts ≤ 1048576) (hg : t.target.size ≤ 140737488355328) :
    own49 left t = left - (1 + t.names.length + t.exts.length + xsz t.exts + t.target.size : Nat) := by
  unfold own49
  have e1 : wrap64 (1 + (t.names.length : Int) + t.exts.length) = 1 + t.names.length + t.exts.length := by unfold wrap64; omega
  have e2 : wrap64 (left - (1 + (t.names.length : Int) + t.exts.length)) = left - (1 + t.names.length + t.exts.length) := by unfold wrap64; omega
  rw [e1, e2, xsub_exact _ _ (by omega) (by omega)]
  unfold wrap64; omega
/-- A tree that may be and is small is light. -/
theorem T.sm_wt (t : T) : Sz t → t.all = true → ∀ d left : Int, 0 ≤ left → left ≤ 400 → (t.sm d left).1 = true → 0 ≤ (t.sm d left).2 ∧ (t.wt : Int) + (t.sm d left).2 ≤ left := by
  induction t using T.ind with
  | h t ih =>
    intro hz ha d left h0 h1 h
    obtain ⟨_, hn, hi, he, hs, hx, hg, hr⟩ := hz
    rw [T.all_eq, Bool.and_eq_true] at ha
    have ho := T.one_law hx ha.2
    have e := own49_exact h0 h1 hn he ho.2.1 hg
    have hw := T.wt_eq t
    have hL : ∀ l : List T, (∀ u ∈ l, u ∈ t.items) → ∀ left : Int, 0 ≤ left → left ≤ 400 → (T.smL (d - 1) left l).1 = true → 0 ≤ (T.smL (d - 1) left l).2 ∧ (T.wtL l : Int) + (T.smL (d - 1) left l).2 ≤ left := by
      intro l
      induction l with
      | nil => intro _ left h2 h3 _; simp only [T.smL, T.wtL]; omega
      | cons u l ih2 =>
        intro hm left h2 h3 h4
        simp only [T.smL] at h4 ⊢
        split at h4
        · rename_i h5
          rw [if_pos h5]
          have hu := hm u (by simp)
          have h6 := ih u hu (hr u hu) (T.allL_mem ha.1 hu) (d - 1) left h2 h3 h5
          have h7 := ih2 (fun v hv => hm v (List.mem_cons_of_mem _ hv)) _ h6.1 (by omega) h4
          simp only [T.wtL]
          omega
        · cases h4
    obtain ⟨k, o, ns, its, sz, ex, tg⟩ := t
    simp only [T.sm] at h ⊢
    split at h
    · cases h
    rename_i hneg
    rw [if_neg hneg]
    rw [e] at h hneg ⊢
    simp only [T.names, T.exts, T.target, T.items] at h hneg hw hL ⊢
    have := hL its (fun _ h => h) _ (by omega) (by omega) h
    omega
/-- A tree that may be by the document may be. -/
theorem T.all_rgt (t : T) : Sz t → t.all = true → ∀ d left : Int, d + t.depth ≤ 15 → (t.count : Int) ≤ left → t.rgt d left = (true, left - t.count) := by
  induction t using T.ind with
  | h t ih =>
    intro hz ha d left h0 h1
    obtain ⟨_, hn, hi, he, hs, hx, hg, hr⟩ := hz
    rw [T.all_eq, Bool.and_eq_true] at ha
    have ho := T.one_law hx ha.2
    have hL : ∀ l : List T, (∀ u ∈ l, u ∈ t.items) → ∀ left : Int, d + T.depthL l ≤ 15 → (T.countL l : Int) ≤ left → T.rgtL (d + 1) left l = (true, left - T.countL l) := by
      intro l
      induction l with
      | nil => intro _ left h2 h3; simp [T.rgtL, T.countL]
      | cons u l ih2 =>
        intro hm left h2 h3
        simp only [T.depthL, T.countL] at h2 h3
        have hu := hm u (by simp)
        have h6 := ih u hu (hr u hu) (T.allL_mem ha.1 hu) (d + 1) left (by omega) (by omega)
        have h7 := ih2 (fun v hv => hm v (List.mem_cons_of_mem _ hv)) (left - u.count) (by omega) (by omega)
        simp only [T.rgtL, h6, if_true, h7, T.countL]
        simp only [Prod.mk.injEq, true_and]
        omega
    have hc := T.count_eq t
    have hd := T.depth_eq t
    obtain ⟨hzero, _, _, hkind⟩ := ho
    obtain ⟨k, o, ns, its, sz, ex, tg⟩ := t
    simp only [T.kind, T.items, T.size, T.exts, T.target] at hkind hL hc hd
    simp only [T.rgt]
    rw [if_neg (by omega), if_neg (by omega), hzero, if_neg (by decide)]
    rcases hkind with ⟨rfl, rfl, h⟩ | ⟨rfl, h⟩ | ⟨rfl, rfl, h, h2⟩ | ⟨rfl, rfl⟩
    · rw [if_pos rfl, h, hc]; simp [T.countL]
    · rw [if_neg (by decide), if_neg (by decide), if_neg (by decide), if_pos rfl, h, if_neg (by decide)]
      rw [hL its (fun _ h => h) (left - 1) (by omega) (by omega), hc]
      simp only [Prod.mk.injEq, true_and]
      omega
    · rw [if_neg (by decide), if_pos rfl, h, hc]; simp [T.countL, h2]
    · rw [if_neg (by decide), if_neg (by decide), if_pos rfl, hc]; simp [T.countL]
theorem nameOk_size {s : ByteArray} (h : nameOk s = true) : s.size ≤ 64 := by
  unfold nameOk at h
  simp only [Bool.and_eq_true, decide_eq_true_eq] at h
  exact h.1.2
theorem T.all_nms (t : T) : Sz t → t.all = true → NmS t := by
  induction t using T.ind with
  | h t ih =>
    intro hz ha
    obtain ⟨_, hn, hi, he, hs, hx, hg, hr⟩ := hz
    rw [T.all_eq, Bool.and_eq_true] at ha
    have ho := T.one_law hx ha.2
    exact .mk t (fun s h => by have := nameOk_size (ho.2.2.1 s h); omega) (fun u hu => ih u hu (hr u hu) (T.allL_mem ha.1 hu))
/-- Can there be such a tree, by the document? -/
def T.may (t : T) : Bool := (t.kind == 2) && t.all && decide (t.count ≤ 4096) && decide (t.depth ≤ 15)
def T.small (t : T) : Bool := (t.sm 30 400).1
theorem T.small_wt {t : T} (hz : Sz t) (hs : t.small = true) (ha : t.all = true) : t.wt ≤ 400 := by
  have := t.sm_wt hz ha 30 400 (by omega) (by omega) hs
  omega
/-- A tree that the laws look at: it may be, and is light. -/
theorem T.may_right {t : T} (hz : Sz t) (hs : t.small = true) (hm : t.may = true) : t.right = true ∧ t.wt ≤ 400 ∧ NmS t := by
  unfold T.may at hm
  simp only [Bool.and_eq_true, decide_eq_true_eq] at hm
  obtain ⟨⟨⟨h1, h2⟩, h3⟩, h4⟩ := hm
  have h5 := t.all_rgt hz h2 0 4096 (by omega) (by omega)
  refine ⟨?_, T.small_wt hz hs h2, t.all_nms hz h2⟩
  unfold T.right
  rw [h1, h5]
  rfl
end Go.Proofs.YtkmojgdjapfbbaaDoor
