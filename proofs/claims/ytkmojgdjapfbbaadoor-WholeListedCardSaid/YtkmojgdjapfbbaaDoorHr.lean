/- heap, plainly: what merging answers. -/
import Derived.Test.YtkmojgdjapfbbaaDoorHe
namespace Go.Proofs.YtkmojgdjapfbbaaDoor
open Go.RowKit Go.Maps
set_option linter.unusedSimpArgs false
set_option linter.unusedVariables false

theorem bl_total : ∀ x y : List UInt8, x ≠ y → Op.bytesLess x y = true ∨ Op.bytesLess y x = true
  | [], [], h => absurd rfl h
  | [], _ :: _, _ => .inl (by simp [Op.bytesLess])
  | _ :: _, [], _ => .inr (by simp [Op.bytesLess])
  | a :: x, b :: y, h => by
    simp only [Op.bytesLess, Bool.or_eq_true, decide_eq_true_eq, Bool.and_eq_true, beq_iff_eq]
    by_cases hab : a = b
    · subst hab
      rcases bl_total x y (fun e => h (by rw [e])) with h1 | h1
      · exact .inl (.inr ⟨rfl, h1⟩)
      · exact .inr (.inr ⟨rfl, h1⟩)
    · have hn : a.toNat ≠ b.toNat := fun e => hab (UInt8.toNat.inj e)
      rcases Nat.lt_or_gt_of_ne hn with h1 | h1
      · exact .inl (.inl (UInt8.lt_iff_toNat_lt.2 h1))
      · exact .inr (.inl (UInt8.lt_iff_toNat_lt.2 h1))
theorem ltS_total {a b : ByteArray} (h : a ≠ b) : ltS a b = true ∨ ltS b a = true := by
  refine bl_total _ _ (fun e => h ?_)
  rw [toList_eq, toList_eq] at e
  exact ByteArray.ext (Array.toList_inj.1 e)
theorem klt_irrefl (a : ByteArray × Nat) : klt a a = false := by simp [klt]
theorem klt_trans {a b c : ByteArray × Nat} (h1 : klt a b = true) (h2 : klt b c = true) : klt a c = true := by
  unfold klt at h1 h2 ⊢
  by_cases hab : a.1 = b.1
  · rw [if_pos hab] at h1
    rw [hab]
    by_cases hbc : b.1 = c.1
    · rw [if_pos hbc] at h2 ⊢
      rw [decide_eq_true_eq] at h1 h2 ⊢
      omega
    · rw [if_neg hbc] at h2 ⊢
      exact h2
  · rw [if_neg hab] at h1
    by_cases hbc : b.1 = c.1
    · rw [if_neg (by rw [← hbc]; exact hab), ← hbc]
      exact h1
    · rw [if_neg hbc] at h2
      have h3 := ltS_trans h1 h2
      rw [if_neg (fun e => by rw [e, ltS_irrefl] at h3; cases h3)]
      exact h3
theorem klt_asymm {a b : ByteArray × Nat} (h : klt a b = true) : klt b a = false := by
  cases h2 : klt b a
  · rfl
  · have := klt_trans h h2
    rw [klt_irrefl] at this
    cases this
theorem klt_total {a b : ByteArray × Nat} (h : a ≠ b) : klt a b = true ∨ klt b a = true := by
  unfold klt
  by_cases hab : a.1 = b.1
  · rw [if_pos hab, if_pos hab.symm]
    have : a.2 ≠ b.2 := fun e => h (Prod.ext hab e)
    simp only [decide_eq_true_eq]
    omega
  · rw [if_neg hab, if_neg (fun e => hab e.symm)]
    exact ltS_total hab
/-- Not less, and not less: not less. -/
theorem kle_trans {a b c : ByteArray × Nat} (h1 : klt b a = false) (h2 : klt c b = false) : klt c a = false := by
  cases h3 : klt c a
  · rfl
  · by_cases hbc : b = c
    · rw [hbc, h3] at h1; cases h1
    · rcases klt_total hbc with h4 | h4
      · rw [klt_trans h4 h3] at h1; cases h1
      · rw [h4] at h2; cases h2
def Nl (R : Rws) (l : List (Nat × Nat)) (i j : Nat) : Prop := ∀ a b, l[i]? = some a → l[j]? = some b → R.lt a b = false
theorem Nl.self (R : Rws) (l : List (Nat × Nat)) (i : Nat) : Nl R l i i := fun a b h1 h2 => by
  rw [h1] at h2
  injection h2 with h2
  subst h2
  exact klt_irrefl _
theorem Nl.trans {R : Rws} {l : List (Nat × Nat)} {i j k : Nat} (hj : j < l.length) (h1 : Nl R l i j) (h2 : Nl R l j k) : Nl R l i k := fun a b ha hb => by
  have hj2 := List.getElem?_eq_getElem hj
  exact kle_trans (h2 _ b hj2 hb) (h1 a _ ha hj2)
theorem lessAt_true {R : Rws} {l : List (Nat × Nat)} {i j : Nat} (h : lessAt R l i j = true) : ∃ a b, l[i]? = some a ∧ l[j]? = some b ∧ R.lt a b = true := by
  unfold lessAt at h
  split at h
  · exact ⟨_, _, by assumption, by assumption, h⟩
  · cases h
theorem lessAt_false {R : Rws} {l : List (Nat × Nat)} {i j : Nat} (h : lessAt R l i j = false) : Nl R l i j := fun a b ha hb => by
  unfold lessAt at h
  rw [ha, hb] at h
  exact h
theorem swapL_get {α : Type} {l : List α} {i j : Nat} (hi : i < l.length) (hj : j < l.length) (k : Nat) : (swapL l i j)[k]? = if k = j then l[i]? else if k = i then l[j]? else l[k]? := by
  have h1 := List.getElem?_eq_getElem hi
  have h2 := List.getElem?_eq_getElem hj
  unfold swapL
  rw [h1, h2]
  simp only
  by_cases hkj : k = j
  · subst hkj
    rw [if_pos rfl, List.getElem?_set_self (by rw [List.length_set]; exact hj)]
  · rw [if_neg hkj, List.getElem?_set_ne (fun e => hkj e.symm)]
    by_cases hki : k = i
    · subst hki
      rw [if_pos rfl, List.getElem?_set_self hi]
    · rw [if_neg hki, List.getElem?_set_ne (fun e => hki e.symm)]
theorem kid_or (R : Rws) (n : Nat) (l : List (Nat × Nat)) (i : Nat) (h : 2 * i + 1 < n) : (kidL R n l i = 2 * i + 1 ∨ kidL R n l i = 2 * i + 2) ∧ kidL R n l i < n := by
  unfold kidL
  split
  · rename_i h2
    exact ⟨.inr rfl, h2.1⟩
  · exact ⟨.inl rfl, h⟩
theorem kid_min {R : Rws} {n : Nat} {l : List (Nat × Nat)} {i b : Nat} (hb : b = 2 * i + 1 ∨ b = 2 * i + 2) (hbn : b < n) : Nl R l b (kidL R n l i) := by
  unfold kidL
  split
  · rename_i h2
    obtain ⟨x, y, hx, hy, hl⟩ := lessAt_true h2.2
    rcases hb with rfl | rfl
    · intro a b ha hb2
      rw [hy] at ha
      rw [hx] at hb2
      injection ha with ha
      injection hb2 with hb2
      subst ha
      subst hb2
      exact klt_asymm hl
    · exact Nl.self R l _
  · rename_i h2
    rcases hb with rfl | rfl
    · exact Nl.self R l _
    · have h3 : lessAt R l (2 * i + 2) (2 * i + 1) = false := by
        cases h4 : lessAt R l (2 * i + 2) (2 * i + 1)
        · rfl
        · exact absurd ⟨hbn, h4⟩ h2
      exact lessAt_false h3
def HeapF (R : Rws) (n k : Nat) (l : List (Nat × Nat)) : Prop := ∀ a b, k ≤ a → (b = 2 * a + 1 ∨ b = 2 * a + 2) → b < n → Nl R l b a
/-- A heap but for place i. -/
def HeapX (R : Rws) (n k i : Nat) (l : List (Nat × Nat)) : Prop :=
  (∀ a b, k ≤ a → a ≠ i → (b = 2 * a + 1 ∨ b = 2 * a + 2) → b < n → Nl R l b a) ∧ ∀ p b, k ≤ p → (i = 2 * p + 1 ∨ i = 2 * p + 2) → (b = 2 * i + 1 ∨ b = 2 * i + 2) → b < n → Nl R l b p
theorem downL_heap (R : Rws) (n k : Nat) : ∀ (f : Nat) (l : List (Nat × Nat)) (i : Nat), n ≤ l.length → n ≤ i + f → k ≤ i → HeapX R n k i l → HeapF R n k (downL R n f l i)
  | 0, l, i, hn, hf, hk, hx => fun a b ha hb hbn => hx.1 a b ha (by omega) hb hbn
  | f + 1, l, i, hn, hf, hk, hx => by
    rw [downL]
    by_cases h1 : 2 * i + 1 < n
    · rw [if_pos h1]
      obtain ⟨hc, hcn⟩ := kid_or R n l i h1
      have hmin : ∀ b, (b = 2 * i + 1 ∨ b = 2 * i + 2) → b < n → Nl R l b (kidL R n l i) := fun b hb hbn => kid_min hb hbn
      generalize kidL R n l i = c at hc hcn hmin ⊢
      by_cases h2 : lessAt R l c i = true
      · rw [if_pos h2]
        obtain ⟨y, x, hy, hxx, hlt⟩ := lessAt_true h2
        have hg : ∀ k, (swapL l i c)[k]? = if k = c then l[i]? else if k = i then l[c]? else l[k]? := swapL_get (by omega) (by omega)
        have hnl : ∀ a b, (∀ x y, (swapL l i c)[a]? = some x → (swapL l i c)[b]? = some y → R.lt x y = false) → Nl R (swapL l i c) a b := fun a b h => h
        refine downL_heap R n k f (swapL l i c) c (by rw [swapL_len]; exact hn) (by omega) (by omega) ⟨fun a b ha hac hb hbn => ?_, fun p b hp hcp hb hbn => ?_⟩
        · by_cases hai : a = i
          · subst hai
            by_cases hbc : b = c
            · subst hbc
              intro u v hu hv
              rw [hg, if_pos rfl, hxx] at hu
              rw [hg, if_neg (by omega), if_pos rfl, hy] at hv
              injection hu with hu
              injection hv with hv
              subst hu
              subst hv
              exact klt_asymm hlt
            · intro u v hu hv
              rw [hg, if_neg hbc, if_neg (by omega)] at hu
              rw [hg, if_neg (by omega), if_pos rfl] at hv
              exact hmin b hb hbn u v hu hv
          · intro u v hu hv
            rw [hg, if_neg hac, if_neg hai] at hv
            by_cases hbi : b = i
            · subst hbi
              rw [hg, if_neg (by omega), if_pos rfl] at hu
              exact hx.2 a c ha hb hc hcn u v hu hv
            · rw [hg, if_neg (by omega), if_neg hbi] at hu
              exact hx.1 a b ha hai hb hbn u v hu hv
        · obtain rfl : p = i := by omega
          intro u v hu hv
          rw [hg, if_neg (by omega), if_neg (by omega)] at hu
          rw [hg, if_neg (by omega), if_pos rfl] at hv
          exact hx.1 c b (by omega) (by omega) hb hbn u v hu hv
      · rw [if_neg h2]
        have h3 : Nl R l c i := lessAt_false (by cases h4 : lessAt R l c i; rfl; exact absurd h4 h2)
        intro a b ha hb hbn
        by_cases hai : a = i
        · subst hai
          exact (hmin b hb hbn).trans (by omega) h3
        · exact hx.1 a b ha hai hb hbn
    · rw [if_neg h1]
      intro a b ha hb hbn
      by_cases hai : a = i
      · subst hai; omega
      · exact hx.1 a b ha hai hb hbn
theorem initL_heap (R : Rws) (n : Nat) : ∀ (k : Nat) (l : List (Nat × Nat)), n ≤ l.length → HeapF R n k l → HeapF R n 0 (initL R n k l)
  | 0, l, _, h => h
  | k + 1, l, hn, h => by
    rw [initL]
    refine initL_heap R n k _ (by rw [downL_len]; exact hn) (downL_heap R n k n l k hn (by omega) (Nat.le_refl _) ⟨fun a b ha hak hb hbn => h a b (by omega) hb hbn, fun p b hp hkp _ _ => by omega⟩)
theorem heap_root {R : Rws} {l : List (Nat × Nat)} (h : HeapF R l.length 0 l) : ∀ (k : Nat), k < l.length → Nl R l k 0
  | 0, _ => Nl.self R l 0
  | k + 1, hk => (h (k / 2) (k + 1) (Nat.zero_le _) (by omega) hk).trans (by omega) (heap_root h (k / 2) (by omega))
theorem downL_ge (R : Rws) (n : Nat) : ∀ (f : Nat) (l : List (Nat × Nat)) (i k : Nat), n ≤ l.length → n ≤ k → (downL R n f l i)[k]? = l[k]?
  | 0, l, i, k, _, _ => rfl
  | f + 1, l, i, k, hn, hk => by
    rw [downL]
    by_cases h1 : 2 * i + 1 < n
    · rw [if_pos h1]
      obtain ⟨hc, hcn⟩ := kid_or R n l i h1
      split
      · rw [downL_ge R n f _ _ k (by rw [swapL_len]; exact hn) hk, swapL_get (by omega) (by omega), if_neg (by omega), if_neg (by omega)]
      · rfl
    · rw [if_neg h1]
theorem swapL_perm {α : Type} (l : List α) (i j : Nat) : (swapL l i j).Perm l := by
  by_cases hi : i < l.length
  · by_cases hj : j < l.length
    · have h1 := List.getElem?_eq_getElem hi
      have h2 := List.getElem?_eq_getElem hj
      have h3 : swapL l i j = (l.toArray.swap i j (by simpa using hi) (by simpa using hj)).toList := by
        unfold swapL
        rw [h1, h2]
        simp [Array.swap]
      rw [h3]
      have h4 := Array.swap_perm (xs := l.toArray) (i := i) (j := j) (by simpa using hi) (by simpa using hj)
      exact h4.toList
    · have : l[j]? = none := List.getElem?_eq_none (by omega)
      unfold swapL
      rw [this]
      cases l[i]? <;> exact List.Perm.refl _
  · have : l[i]? = none := List.getElem?_eq_none (by omega)
    unfold swapL
    rw [this]
theorem downL_perm (R : Rws) (n : Nat) : ∀ (f : Nat) (l : List (Nat × Nat)) (i : Nat), (downL R n f l i).Perm l
  | 0, l, i => List.Perm.refl _
  | f + 1, l, i => by
    rw [downL]
    split
    · split
      · exact (downL_perm R n f _ _).trans (swapL_perm l _ _)
      · exact List.Perm.refl _
    · exact List.Perm.refl _
theorem initL_perm (R : Rws) (n : Nat) : ∀ (k : Nat) (l : List (Nat × Nat)), (initL R n k l).Perm l
  | 0, l => List.Perm.refl _
  | k + 1, l => (initL_perm R n k _).trans (downL_perm R n n l k)
theorem popL_perm (R : Rws) (x : Nat × Nat) (t : List (Nat × Nat)) : (popL R (x :: t) t.length).Perm t := by
  unfold popL
  have hD := (downL_perm R t.length t.length (swapL (x :: t) 0 t.length) 0).trans (swapL_perm (x :: t) 0 t.length)
  have hl : (downL R t.length t.length (swapL (x :: t) 0 t.length) 0).length = t.length + 1 := by rw [downL_len, swapL_len]; rfl
  have hg : (downL R t.length t.length (swapL (x :: t) 0 t.length) 0)[t.length]? = some x := by
    rw [downL_ge R _ _ _ _ _ (by rw [swapL_len]; simp) (Nat.le_refl _), swapL_get (by simp) (by simp), if_pos rfl]
    rfl
  generalize downL R t.length t.length (swapL (x :: t) 0 t.length) 0 = D at hD hl hg ⊢
  have hs : D = D.take t.length ++ [x] := by
    conv => lhs; rw [← List.take_append_drop t.length D]
    congr 1
    rw [drop_at hg, List.drop_of_length_le (by omega)]
  rw [hs] at hD
  have h2 : (x :: D.take t.length).Perm (x :: t) := (List.perm_append_comm (l₁ := [x])).trans hD
  have h3 := h2.cons_inv
  exact h3
theorem popL_heap {R : Rws} {x : Nat × Nat} {t : List (Nat × Nat)} (h : HeapF R (t.length + 1) 0 (x :: t)) : HeapF R t.length 0 (popL R (x :: t) t.length) := by
  have hX : HeapX R t.length 0 0 (swapL (x :: t) 0 t.length) := ⟨fun a b _ ha hb hbn => by
    intro u v hu hv
    rw [swapL_get (by simp) (by simp), if_neg (by omega), if_neg (by omega)] at hu hv
    exact h a b (Nat.zero_le _) hb (by omega) u v hu hv, fun p b _ hp _ _ => by omega⟩
  have hD := downL_heap R t.length 0 t.length (swapL (x :: t) 0 t.length) 0 (by rw [swapL_len]; simp) (by omega) (Nat.le_refl _) hX
  intro a b ha hb hbn u v hu hv
  unfold popL at hu hv
  rw [List.getElem?_take_of_lt hbn] at hu
  rw [List.getElem?_take_of_lt (by omega)] at hv
  exact hD a b ha hb hbn u v hu hv
theorem fixL_heap {R : Rws} {x y : Nat × Nat} {t : List (Nat × Nat)} (h : HeapF R (t.length + 1) 0 (x :: t)) : HeapF R (t.length + 1) 0 (downL R (t.length + 1) (t.length + 1) (y :: t) 0) := by
  refine downL_heap R (t.length + 1) 0 (t.length + 1) (y :: t) 0 (by simp) (by omega) (Nat.le_refl _) ⟨fun a b _ ha hb hbn => ?_, fun p b _ hp _ _ => by omega⟩
  intro u v hu hv
  refine h a b (Nat.zero_le _) hb hbn u v ?_ ?_
  · cases b with
    | zero => omega
    | succ b => simpa using hu
  · cases a with
    | zero => omega
    | succ a => simpa using hv
def HOk (R : Rws) (l : List (Nat × Nat)) : Prop := ∀ x ∈ l, x.1 < R.length ∧ x.2 < (R.getD x.1 []).length
/-- How many names are still to come. -/
def leftN (R : Rws) (l : List (Nat × Nat)) : Nat := (l.map fun x => (R.getD x.1 []).length - x.2).sum
theorem HOk.perm {R : Rws} {l l' : List (Nat × Nat)} (h : HOk R l) (hp : l'.Perm l) : HOk R l' := fun x hx => h x (hp.mem_iff.1 hx)
theorem leftN_perm {R : Rws} {l l' : List (Nat × Nat)} (hp : l'.Perm l) : leftN R l' = leftN R l := by
  unfold leftN
  exact (hp.map _).sum_nat
/-- An item of what is to come. -/
def ItIn (R : Rws) (l : List (Nat × Nat)) (y : ByteArray × Nat) : Prop := ∃ x ∈ l, x.1 = y.2 ∧ ∃ p, x.2 ≤ p ∧ (R.getD x.1 [])[p]? = some y.1
def Rise (R : Rws) : Prop := ∀ (i : Nat) (r : List ByteArray), R[i]? = some r → Rising r
theorem name_at {R : Rws} {x : Nat × Nat} (h : x.2 < (R.getD x.1 []).length) : (R.getD x.1 [])[x.2]? = some (R.name x) := by
  unfold Rws.name
  rw [List.getD_eq_getElem?_getD (l := R.getD x.1 []), List.getElem?_eq_getElem h]
  rfl
theorem rise_getD {R : Rws} (h : Rise R) (i : Nat) : Rising (R.getD i []) := by
  rw [List.getD_eq_getElem?_getD]
  cases hr : R[i]? with
  | none => intro a b x y _ hx; simp at hx
  | some r => exact h i r hr
theorem later_name {R : Rws} (h : Rise R) {x : Nat × Nat} {s : ByteArray} {p : Nat} (hx : x.2 < (R.getD x.1 []).length) (hp : x.2 ≤ p) (hs : (R.getD x.1 [])[p]? = some s) : klt (s, x.1) (R.name x, x.1) = false := by
  rcases Nat.eq_or_lt_of_le hp with e | hlt
  · have h1 := name_at hx
    rw [e, hs] at h1
    injection h1 with h1
    rw [h1]
    exact klt_irrefl _
  · have h1 := rise_getD h x.1 x.2 p _ _ hlt (name_at hx) hs
    refine klt_asymm ?_
    unfold klt
    simp only
    rw [if_neg (fun e => by rw [e, ltS_irrefl] at h1; cases h1)]
    exact h1
/-- Merging, plainly. -/
theorem mergeL_law (R : Rws) (hR : Rise R) : ∀ (f : Nat) (l : List (Nat × Nat)), HOk R l → HeapF R l.length 0 l → leftN R l = f →
    Dn R f l ∧ (mergeL R f l).length ≤ f ∧ (∀ y, y ∈ mergeL R f l ↔ ItIn R l y) ∧ ∀ (i j : Nat) a b, i < j → (mergeL R f l)[i]? = some a → (mergeL R f l)[j]? = some b → klt b a = false
  | 0, l, ho, hh, hf => by
    cases l with
    | nil => exact ⟨rfl, Nat.le_refl _, fun y => ⟨fun h => by simp [mergeL] at h, fun ⟨x, hx, _⟩ => by cases hx⟩, fun i j a b _ h => by simp [mergeL] at h⟩
    | cons x t =>
      have h1 := (ho x (List.mem_cons_self ..)).2
      simp only [leftN, List.map_cons, List.sum_cons] at hf
      omega
  | f + 1, [], ho, hh, hf => by simp [leftN] at hf
  | f + 1, x :: t, ho, hh, hf => by
    have hx := ho x (List.mem_cons_self ..)
    have hroot := heap_root hh
    have hleft : (R.getD x.1 []).length - x.2 + leftN R t = f + 1 := by simpa [leftN] using hf
    -- the next heads
    have hnx : HOk R (nextL R x t) ∧ HeapF R (nextL R x t).length 0 (nextL R x t) ∧ leftN R (nextL R x t) = f ∧ ∀ y, ItIn R (nextL R x t) y ↔ (ItIn R t y ∨ (x.1 = y.2 ∧ ∃ p, x.2 + 1 ≤ p ∧ (R.getD x.1 [])[p]? = some y.1)) := by
      unfold nextL
      by_cases hm : x.2 + 1 < (R.getD x.1 []).length
      · rw [if_pos hm]
        have hp := downL_perm R (t.length + 1) (t.length + 1) ((x.1, x.2 + 1) :: t) 0
        have hok : HOk R ((x.1, x.2 + 1) :: t) := fun z hz => by
          rcases List.mem_cons.1 hz with rfl | hz
          · exact ⟨hx.1, hm⟩
          · exact ho z (List.mem_cons_of_mem _ hz)
        refine ⟨hok.perm hp, ?_, ?_, fun y => ?_⟩
        · rw [downL_len]
          exact fixL_heap hh
        · rw [leftN_perm hp]
          simp only [leftN, List.map_cons, List.sum_cons] at hleft ⊢
          omega
        · constructor
          · rintro ⟨z, hz, h1, p, h2, h3⟩
            rcases List.mem_cons.1 (hp.mem_iff.1 hz) with rfl | hz
            · exact .inr ⟨h1, p, h2, h3⟩
            · exact .inl ⟨z, hz, h1, p, h2, h3⟩
          · rintro (⟨z, hz, h1, p, h2, h3⟩ | ⟨h1, p, h2, h3⟩)
            · exact ⟨z, hp.mem_iff.2 (List.mem_cons_of_mem _ hz), h1, p, h2, h3⟩
            · exact ⟨(x.1, x.2 + 1), hp.mem_iff.2 (List.mem_cons_self ..), h1, p, h2, h3⟩
      · rw [if_neg hm]
        have hp := popL_perm R x t
        refine ⟨fun z hz => ho z (List.mem_cons_of_mem _ (hp.mem_iff.1 hz)), ?_, ?_, fun y => ?_⟩
        · rw [hp.length_eq]
          exact popL_heap hh
        · rw [leftN_perm hp]
          omega
        · constructor
          · rintro ⟨z, hz, h1, p, h2, h3⟩
            exact .inl ⟨z, hp.mem_iff.1 hz, h1, p, h2, h3⟩
          · rintro (⟨z, hz, h1, p, h2, h3⟩ | ⟨h1, p, h2, h3⟩)
            · exact ⟨z, hp.mem_iff.2 hz, h1, p, h2, h3⟩
            · have := (List.getElem?_eq_some_iff.1 h3).1
              omega
    obtain ⟨h1, h2, h3, h4⟩ := hnx
    obtain ⟨i1, i2, i3, i4⟩ := mergeL_law R hR f (nextL R x t) h1 h2 h3
    refine ⟨⟨hx, i1⟩, ?_, fun y => ?_, ?_⟩
    · rw [mergeL, List.length_cons]
      omega
    · rw [mergeL, List.mem_cons, i3, h4]
      constructor
      · rintro (rfl | ⟨z, hz, hy⟩ | ⟨e, p, hp, hy⟩)
        · exact ⟨x, List.mem_cons_self .., rfl, x.2, Nat.le_refl _, name_at hx.2⟩
        · exact ⟨z, List.mem_cons_of_mem _ hz, hy⟩
        · exact ⟨x, List.mem_cons_self .., e, p, by omega, hy⟩
      · rintro ⟨z, hz, e, p, hp, hy⟩
        rcases List.mem_cons.1 hz with rfl | hz
        · rcases Nat.eq_or_lt_of_le hp with e2 | hlt
          · left
            have h5 := name_at hx.2
            rw [e2, hy] at h5
            injection h5 with h5
            exact Prod.ext h5 e.symm
          · exact .inr (.inr ⟨e, p, hlt, hy⟩)
        · exact .inr (.inl ⟨z, hz, e, p, hp, hy⟩)
    · intro i j a b hij ha hb
      rw [mergeL] at ha hb
      cases j with
      | zero => omega
      | succ j =>
        rw [List.getElem?_cons_succ] at hb
        cases i with
        | succ i =>
          rw [List.getElem?_cons_succ] at ha
          exact i4 i j a b (by omega) ha hb
        | zero =>
          simp only [List.getElem?_cons_zero, Option.some.injEq] at ha
          subst ha
          have h5 := (h4 b).1 ((i3 b).1 (List.mem_of_getElem? hb))
          rcases h5 with ⟨z, hz, e, p, hp, hy⟩ | ⟨e, p, hp, hy⟩
          · obtain ⟨k, hk⟩ := List.getElem?_of_mem hz
            have hkl := (List.getElem?_eq_some_iff.1 hk).1
            have h6 : R.lt z x = false := hroot (k + 1) (by simp; omega) z x (by rw [List.getElem?_cons_succ]; exact hk) rfl
            have h7 := later_name hR (ho z (List.mem_cons_of_mem _ hz)).2 hp hy
            obtain ⟨b1, b2⟩ := b
            simp only at e
            subst e
            exact kle_trans (a := (R.name x, x.1)) (b := (R.name z, z.1)) h6 h7
          · obtain ⟨b1, b2⟩ := b
            simp only at e
            subst e
            exact later_name hR hx.2 (by omega) hy
end Go.Proofs.YtkmojgdjapfbbaaDoor
namespace Go.Proofs.YtkmojgdjapfbbaaDoor
open Go.RowKit Go.Maps
set_option linter.unusedSimpArgs false
set_option linter.unusedVariables false

theorem headsL_mem (R : Rws) : ∀ (n : Nat) (x : Nat × Nat), x ∈ headsL R n ↔ x.1 < n ∧ x.2 = 0 ∧ 0 < (R.getD x.1 []).length
  | 0, x => by simp [headsL]
  | n + 1, x => by
    rw [headsL, List.mem_append, headsL_mem R n x]
    by_cases h : 0 < (R.getD n []).length
    · rw [if_pos h, List.mem_singleton]
      constructor
      · rintro (⟨h1, h2, h3⟩ | rfl)
        · exact ⟨by omega, h2, h3⟩
        · exact ⟨Nat.lt_succ_self _, rfl, h⟩
      · rintro ⟨h1, h2, h3⟩
        rcases Nat.lt_or_ge x.1 n with h4 | h4
        · exact .inl ⟨h4, h2, h3⟩
        · exact .inr (Prod.ext (by show x.1 = n; omega) h2)
    · rw [if_neg h]
      constructor
      · rintro (⟨h1, h2, h3⟩ | h1)
        · exact ⟨by omega, h2, h3⟩
        · cases h1
      · rintro ⟨h1, h2, h3⟩
        rcases Nat.lt_or_ge x.1 n with h4 | h4
        · exact .inl ⟨h4, h2, h3⟩
        · obtain e : x.1 = n := by omega
          rw [e] at h3
          exact absurd h3 h
theorem leftN_append (R : Rws) (a b : List (Nat × Nat)) : leftN R (a ++ b) = leftN R a + leftN R b := by
  unfold leftN
  rw [List.map_append, List.sum_append]
theorem headsL_left (R : Rws) : ∀ n : Nat, leftN R (headsL R n) = manyL R n
  | 0 => rfl
  | n + 1 => by
    rw [headsL, leftN_append, headsL_left R n, manyL]
    by_cases h : 0 < (R.getD n []).length
    · rw [if_pos h]
      simp [leftN]
    · rw [if_neg h]
      show manyL R n + 0 = manyL R n + (R.getD n []).length
      omega
/-- What heap.Merge answers, of rising rows. -/
theorem start_law (R : Rws) (hR : Rise R) : Dn R (manyL R R.length) (startL R) ∧ (mergeL R (manyL R R.length) (startL R)).length ≤ manyL R R.length ∧
    (∀ y, y ∈ mergeL R (manyL R R.length) (startL R) ↔ ∃ r, R[y.2]? = some r ∧ y.1 ∈ r) ∧
    ∀ (i j : Nat) a b, i < j → (mergeL R (manyL R R.length) (startL R))[i]? = some a → (mergeL R (manyL R R.length) (startL R))[j]? = some b → klt b a = false := by
  have hp := initL_perm R (headsL R R.length).length ((headsL R R.length).length / 2) (headsL R R.length)
  have hok : HOk R (headsL R R.length) := fun x hx => by
    have h1 := (headsL_mem R R.length x).1 hx
    exact ⟨h1.1, by omega⟩
  have hheap : HeapF R (startL R).length 0 (startL R) := by
    have h1 := initL_heap R (headsL R R.length).length ((headsL R R.length).length / 2) (headsL R R.length) (Nat.le_refl _) (fun a b ha hb hbn => by omega)
    have h2 : (startL R).length = (headsL R R.length).length := initL_len R _ _ _
    rw [h2]
    exact h1
  obtain ⟨h1, h2, h3, h4⟩ := mergeL_law R hR (manyL R R.length) (startL R) (hok.perm hp) hheap (by
    have h5 : leftN R (startL R) = leftN R (headsL R R.length) := leftN_perm hp
    rw [h5, headsL_left])
  refine ⟨h1, h2, fun y => ?_, h4⟩
  rw [h3]
  constructor
  · rintro ⟨x, hx, e, p, hle, hs⟩
    have h5 := (headsL_mem R R.length x).1 (hp.mem_iff.1 hx)
    obtain ⟨r, hr⟩ : ∃ r, R[x.1]? = some r := ⟨_, List.getElem?_eq_getElem h5.1⟩
    rw [List.getD_eq_getElem?_getD, hr] at hs
    exact ⟨r, by rw [← e]; exact hr, List.mem_of_getElem? hs⟩
  · rintro ⟨r, hr, hm⟩
    obtain ⟨p, hpp⟩ := List.getElem?_of_mem hm
    have hget : R.getD y.2 [] = r := by rw [List.getD_eq_getElem?_getD, hr]; rfl
    have hpl := (List.getElem?_eq_some_iff.1 hpp).1
    exact ⟨(y.2, 0), hp.mem_iff.2 ((headsL_mem R R.length (y.2, 0)).2 ⟨(List.getElem?_eq_some_iff.1 hr).1, rfl, by rw [hget]; omega⟩), rfl, p, Nat.zero_le _, by rw [hget]; exact hpp⟩
def Sorted (l : List (ByteArray × Nat)) : Prop := ∀ (i j : Nat) a b, i < j → l[i]? = some a → l[j]? = some b → klt b a = false
theorem Sorted.cons {x : ByteArray × Nat} {t : List (ByteArray × Nat)} (h : Sorted (x :: t)) : Sorted t ∧ ∀ y ∈ t, klt y x = false :=
  ⟨fun i j a b hij ha hb => h (i + 1) (j + 1) a b (by omega) (by simpa using ha) (by simpa using hb), fun y hy => by
    obtain ⟨k, hk⟩ := List.getElem?_of_mem hy
    exact h 0 (k + 1) x y (by omega) rfl (by simpa using hk)⟩
theorem klt_name {x y : ByteArray × Nat} (h : klt y x = false) : ltS y.1 x.1 = false ∧ (y.1 = x.1 → x.2 ≤ y.2) := by
  unfold klt at h
  by_cases e : y.1 = x.1
  · rw [if_pos e, decide_eq_false_iff_not] at h
    exact ⟨by rw [e]; exact ltS_irrefl _, fun _ => by omega⟩
  · rw [if_neg e] at h
    exact ⟨h, fun h2 => absurd h2 e⟩
theorem rising_cons {s : ByteArray} {l : List ByteArray} (h : Rising l) (hs : ∀ u ∈ l, ltS s u = true) : Rising (s :: l) := fun i j a b hij ha hb => by
  cases j with
  | zero => omega
  | succ j =>
    rw [List.getElem?_cons_succ] at hb
    cases i with
    | zero =>
      simp only [List.getElem?_cons_zero, Option.some.injEq] at ha
      subst ha
      exact hs b (List.mem_of_getElem? hb)
    | succ i =>
      rw [List.getElem?_cons_succ] at ha
      exact h i j a b (by omega) ha hb
theorem firstL_law : ∀ (l : List (ByteArray × Nat)) (q : Option ByteArray), Sorted l → (∀ s0, q = some s0 → ∀ y ∈ l, ltS y.1 s0 = false) →
    (∀ x ∈ firstL q l, x ∈ l ∧ (∀ s0, q = some s0 → ltS s0 x.1 = true) ∧ ∀ y ∈ l, y.1 = x.1 → x.2 ≤ y.2) ∧ Rising ((firstL q l).map (·.1)) ∧ (firstL q l).length ≤ l.length
  | [], q, _, _ => ⟨fun x hx => by simp [firstL] at hx, fun i j a b _ h => by simp [firstL] at h, Nat.le_refl _⟩
  | x :: t, q, hs, hq => by
    obtain ⟨hst, hxt⟩ := hs.cons
    obtain ⟨h1, h2, h3⟩ := firstL_law t (some x.1) hst (fun s0 e y hy => by
      injection e with e
      subst e
      exact (klt_name (hxt y hy)).1)
    have hrest : ∀ z ∈ firstL (some x.1) t, z ∈ x :: t ∧ ltS x.1 z.1 = true ∧ ∀ y ∈ x :: t, y.1 = z.1 → z.2 ≤ y.2 := fun z hz => by
      obtain ⟨i1, i2, i3⟩ := h1 z hz
      have i4 := i2 x.1 rfl
      refine ⟨List.mem_cons_of_mem _ i1, i4, fun y hy e => ?_⟩
      rcases List.mem_cons.1 hy with rfl | hy
      · rw [e, ltS_irrefl] at i4; cases i4
      · exact i3 y hy e
    by_cases hqx : q = some x.1
    · rw [firstL, if_pos hqx]
      refine ⟨fun z hz => ?_, h2, by simp; omega⟩
      obtain ⟨i1, i2, i3⟩ := hrest z hz
      refine ⟨i1, fun s0 e => ?_, i3⟩
      rw [hqx] at e
      injection e with e
      rw [← e]
      exact i2
    · rw [firstL, if_neg hqx]
      have hqx2 : ∀ s0, q = some s0 → ltS s0 x.1 = true := fun s0 e => by
        have h5 := hq s0 e x (List.mem_cons_self ..)
        have hne : s0 ≠ x.1 := fun e2 => hqx (by rw [e, e2])
        rcases ltS_total hne with h6 | h6
        · exact h6
        · rw [h5] at h6; cases h6
      refine ⟨fun z hz => ?_, ?_, by simp; omega⟩
      · rcases List.mem_cons.1 hz with rfl | hz
        · refine ⟨List.mem_cons_self .., hqx2, fun y hy e => ?_⟩
          rcases List.mem_cons.1 hy with rfl | hy
          · exact Nat.le_refl _
          · exact (klt_name (hxt y hy)).2 e
        · obtain ⟨i1, i2, i3⟩ := hrest z hz
          exact ⟨i1, fun s0 e => ltS_trans (hqx2 s0 e) i2, i3⟩
      · rw [List.map_cons]
        refine rising_cons h2 (fun u hu => ?_)
        obtain ⟨z, hz, rfl⟩ := List.mem_map.1 hu
        exact (hrest z hz).2.1
/-- All names of some rows, each once, with the first row that has it. -/
def allN (R : Rws) : List (ByteArray × Nat) := firstL none (mergeL R (manyL R R.length) (startL R))
theorem allN_law (R : Rws) (hR : Rise R) : (∀ x ∈ allN R, (∃ r, R[x.2]? = some r ∧ x.1 ∈ r) ∧ ∀ (i : Nat) (r : List ByteArray), i < x.2 → R[i]? = some r → x.1 ∉ r) ∧ Rising ((allN R).map (·.1)) ∧ (allN R).length ≤ manyL R R.length := by
  obtain ⟨_, h2, h3, h4⟩ := start_law R hR
  obtain ⟨i1, i2, i3⟩ := firstL_law (mergeL R (manyL R R.length) (startL R)) none h4 (fun s0 e => by cases e)
  refine ⟨fun x hx => ?_, i2, Nat.le_trans i3 h2⟩
  obtain ⟨j1, _, j3⟩ := i1 x hx
  refine ⟨(h3 x).1 j1, fun i r hi hr hm => ?_⟩
  have := j3 (x.1, i) ((h3 (x.1, i)).2 ⟨r, hr, hm⟩) rfl
  simp only at this
  omega
end Go.Proofs.YtkmojgdjapfbbaaDoor
