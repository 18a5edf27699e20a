/- WholeFiles: the plain part. -/
import Derived.Test.YtkmojgdjapfbbaaDoorCt
import Derived.Test.YtkmojgdjapfbbaaDoorFi
namespace Go.Proofs.YtkmojgdjapfbbaaDoor
open Go.RowKit Go.Maps
set_option linter.unusedSimpArgs false
set_option linter.unusedVariables false

abbrev abc : ByteArray := ⟨#[97, 98, 99, 100, 101, 102, 103, 104, 105, 106, 107, 108, 109, 110, 111, 112, 113, 114, 115, 116, 117, 118, 119, 120, 121, 122]⟩
def letter (j : Nat) : ByteArray := abc.extract j (j + 1)
theorem letter_list (j : Nat) (h : j < 26) : (letter j).data.toList = [UInt8.ofNat (97 + j)] := by
  unfold letter
  rw [Lib.extract_data]
  have : ∀ j : Fin 26, ((abc.data.toList.drop j.val).take (j.val + 1 - j.val)) = [UInt8.ofNat (97 + j.val)] := by decide
  exact this ⟨j, h⟩
theorem letter_size (j : Nat) (h : j < 26) : (letter j).size = 1 := by rw [Lib.size_eq, letter_list j h]; rfl
theorem letter_nameC (j : Nat) (h : j < 26) : NameC (letter j) := nameC_ascii _ (by rw [letter_size j h]; omega) (fun i b hb => by
  rw [letter_list j h] at hb
  have : ∀ j : Fin 26, (UInt8.ofNat (97 + j.val)).toNat < 128 := by decide
  match i with
  | 0 =>
    have e : UInt8.ofNat (97 + j) = b := by simpa using hb
    rw [← e]; exact this ⟨j, h⟩
  | i + 1 => simp at hb)
theorem letter_ok (j : Nat) (h : j < 26) : nameOk (letter j) = true := by
  unfold nameOk hasBad
  rw [letter_size j h, toList_eq, letter_list j h]
  have : ∀ j : Fin 26, ((!(decide ([UInt8.ofNat (97 + j.val)] = [])) && !(decide ([UInt8.ofNat (97 + j.val)] = [46])) && !(decide ([UInt8.ofNat (97 + j.val)] = [46, 46])) && decide (1 ≤ 64) && !(Lib.containsAny [UInt8.ofNat (97 + j.val)] [47, 0])) = true) := by decide
  exact this ⟨j, h⟩
theorem letter_lt (i j : Nat) (h : i < j) (hj : j < 26) : ltS (letter i) (letter j) = true := by
  unfold ltS
  rw [toList_eq, toList_eq, letter_list i (by omega), letter_list j hj]
  have : ∀ i j : Fin 26, i.val < j.val → Op.bytesLess [UInt8.ofNat (97 + i.val)] [UInt8.ofNat (97 + j.val)] = true := by decide
  exact this ⟨i, by omega⟩ ⟨j, hj⟩ h
def letters (n : Nat) : List ByteArray := (List.range n).map letter
theorem letters_len (n : Nat) : (letters n).length = n := by simp [letters]
theorem letters_get {n j : Nat} (h : j < n) : (letters n)[j]? = some (letter j) := by simp [letters, h]
theorem letters_succ (n : Nat) : letters (n + 1) = letters n ++ [letter n] := by simp [letters, List.range_succ]
theorem letters_rising (n : Nat) (h : n ≤ 26) : Rising (letters n) := by
  intro i j a b hij ha hb
  have hj := (List.getElem?_eq_some_iff.1 hb).1
  rw [letters_len] at hj
  rw [letters_get (by omega)] at ha hb
  injection ha with ha
  injection hb with hb
  rw [← ha, ← hb]
  exact letter_lt i j hij (by omega)
theorem nmB_of : ∀ (l : List ByteArray) (q : Option ByteArray), Rising l → (∀ s ∈ l, nameOk s = true) → (∀ p, q = some p → ∀ s, l[0]? = some s → ltS p s = true) → nmB q l = true
  | [], q, _, _, _ => rfl
  | s :: l, q, h1, h2, h3 => by
    have ih := nmB_of l (some s) (fun i j a b hij ha hb => h1 (i + 1) (j + 1) a b (by omega) (by simpa using ha) (by simpa using hb)) (fun u hu => h2 u (List.mem_cons_of_mem _ hu))
      (fun p hp u hu => by cases hp; exact h1 0 1 s u (by omega) rfl (by simpa using hu))
    simp only [nmB, h2 s (by simp), ih, Bool.true_and, Bool.and_true]
    cases q with
    | none => rfl
    | some q => exact h3 q rfl s rfl
theorem letters_nmB (n : Nat) (h : n ≤ 26) : nmB none (letters n) = true :=
  nmB_of _ _ (letters_rising n h) (fun s hs => by
    obtain ⟨j, hj, rfl⟩ := List.mem_map.1 hs
    exact letter_ok j (by have := List.mem_range.1 hj; omega)) (fun p hp => by cases hp)
/-- Files of these bytes. -/
def FilesT (fs : List ByteArray) (its : List T) : Prop :=
  its.length = fs.length ∧ ∀ (j : Nat) (s : ByteArray) (u : T), fs[j]? = some s → its[j]? = some u → s.size ≤ 1000 ∧ ∃ E, u = textT s E ∧ OfInv s.data.toList s.size E ∧ E.length ≤ s.size
theorem FilesT.nil : FilesT [] [] := ⟨rfl, fun j s u h => by simp at h⟩
theorem FilesT.snoc {fs : List ByteArray} {its : List T} {s : ByteArray} {E : List Ext} (h : FilesT fs its) (hs : s.size ≤ 1000) (hE : OfInv s.data.toList s.size E) (hl : E.length ≤ s.size) : FilesT (fs ++ [s]) (its ++ [textT s E]) := by
  refine ⟨by simp [h.1], fun j s' u h1 h2 => ?_⟩
  rcases Nat.lt_or_ge j fs.length with hj | hj
  · rw [List.getElem?_append_left hj] at h1
    rw [List.getElem?_append_left (by rw [h.1]; exact hj)] at h2
    exact h.2 j s' u h1 h2
  · have hjl := (List.getElem?_eq_some_iff.1 h1).1
    simp at hjl
    obtain rfl : j = fs.length := by omega
    rw [List.getElem?_append_right (Nat.le_refl _)] at h1
    rw [List.getElem?_append_right (by rw [h.1]; exact Nat.le_refl _), h.1] at h2
    simp at h1 h2
    subst h1 h2
    exact ⟨hs, E, rfl, hE, hl⟩
theorem FilesT.item {fs : List ByteArray} {its : List T} (h : FilesT fs its) {u : T} (hu : u ∈ its) : ∃ s E, s.size ≤ 1000 ∧ u = textT s E ∧ OfInv s.data.toList s.size E ∧ E.length ≤ s.size := by
  obtain ⟨j, hj⟩ := List.getElem?_of_mem hu
  have hjl := (List.getElem?_eq_some_iff.1 hj).1
  obtain ⟨s, hs⟩ : ∃ s, fs[j]? = some s := ⟨_, List.getElem?_eq_getElem (by have := h.1; omega)⟩
  obtain ⟨h1, E, h2, h3, h4⟩ := h.2 j s u hs hj
  exact ⟨s, E, h1, h2, h3, h4⟩
theorem text_rX {s : ByteArray} {E : List Ext} (hs : s.size ≤ 1000) (hE : OfInv s.data.toList s.size E) : rX s.size 0 (E.map toI) = true := by
  have h := hE.ord
  exact rX_of (a := 0) (e := min s.size s.data.toList.length) h (by omega) (by omega)
theorem text_rgt {s : ByteArray} {E : List Ext} (hs : s.size ≤ 1000) (hE : OfInv s.data.toList s.size E) (x : Int) (hx : 1 ≤ x) : T.rgt 1 x (textT s E) = (true, x - 1) := by
  have e : (⟨#[]⟩ : ByteArray).toList = [] := by rw [toList_eq]
  have hz : T.zero (textT s E) = true := by
    unfold T.zero zB
    simp [textT, T.kind, T.opq, T.names, T.items, T.size, T.exts, T.target, e]
  unfold textT at hz ⊢
  simp only [T.rgt]
  rw [if_neg (by omega), if_neg (by omega), hz, if_neg (by simp), if_pos trivial, text_rX hs hE]
theorem files_rgtL {fs : List ByteArray} {its : List T} (h : ∀ u ∈ its, ∃ s E, s.size ≤ 1000 ∧ u = textT s E ∧ OfInv s.data.toList s.size E ∧ E.length ≤ s.size) : ∀ x : Int, (its.length : Int) ≤ x → T.rgtL 1 x its = (true, x - its.length) := by
  induction its with
  | nil => intro x hx; simp [T.rgtL]
  | cons u its ih =>
    intro x hx
    obtain ⟨s, E, h1, rfl, h3, _⟩ := h u (by simp)
    simp only [List.length_cons] at hx ⊢
    simp only [T.rgtL]
    rw [text_rgt h1 h3 x (by omega)]
    simp only [if_pos]
    rw [ih (fun u hu => h u (List.mem_cons_of_mem _ hu)) (x - 1) (by omega)]
    congr 1
    omega
theorem files_right {fs : List ByteArray} {its : List T} (h : FilesT fs its) (hn : fs.length ≤ 26) : T.right (dirT (letters fs.length) its) = true := by
  have hl := h.1
  have e : (⟨#[]⟩ : ByteArray).toList = [] := by rw [toList_eq]
  have hz : T.zero (dirT (letters fs.length) its) = true := by
    unfold T.zero zB
    simp [dirT, T.kind, T.opq, T.names, T.items, T.size, T.exts, T.target, e]
  have hnm : T.namesOk (dirT (letters fs.length) its) = true := by
    unfold T.namesOk
    simp only [dirT, T.names, T.items]
    rw [letters_nmB _ hn]
    simp [letters_len, hl]
  unfold T.right
  have hk : (T.kind (dirT (letters fs.length) its) == 2) = true := rfl
  rw [hk, Bool.true_and]
  unfold dirT at hz hnm ⊢
  simp only [T.rgt]
  rw [if_neg (by omega), if_neg (by omega), hz, if_neg (by simp), if_neg (by decide), if_neg (by decide), if_neg (by decide), if_pos trivial, hnm, if_neg (by simp)]
  rw [show (0 : Int) + 1 = 1 from rfl, files_rgtL (fs := fs) (fun u hu => h.item hu) _ (by omega)]
theorem files_count {fs : List ByteArray} {its : List T} (h : FilesT fs its) : (dirT (letters fs.length) its).count = fs.length + 1 := by
  rw [T.count_eq]
  have : ∀ l : List T, (∀ u ∈ l, ∃ s E, s.size ≤ 1000 ∧ u = textT s E ∧ OfInv s.data.toList s.size E ∧ E.length ≤ s.size) → T.countL l = l.length := by
    intro l
    induction l with
    | nil => intro _; rfl
    | cons u l ih =>
      intro hh
      obtain ⟨s, E, _, rfl, _⟩ := hh u (by simp)
      simp only [T.countL, T.count_eq, List.length_cons]
      rw [ih (fun u hu => hh u (List.mem_cons_of_mem _ hu))]
      simp [textT, T.items, T.countL]
      omega
  simp only [dirT, T.items]
  rw [this its (fun u hu => h.item hu), h.1]
  omega
theorem files_fit {fs : List ByteArray} {its : List T} (h : FilesT fs its) (hn : fs.length ≤ 26) : Fit PnC PtC (dirT (letters fs.length) its) := by
  have hl := h.1
  refine .mk _ (by simp only [dirT, T.names, letters_len]; omega) (by simp only [dirT, T.items]; omega) (by simp [dirT, T.exts]) (fun s hs => ?_) (fun hk => by simp [dirT, T.kind] at hk) (fun u hu => ?_)
  · simp only [dirT, T.names] at hs
    obtain ⟨j, hj, rfl⟩ := List.mem_map.1 hs
    have := List.mem_range.1 hj
    exact ⟨letter_nameC j (by omega), by rw [letter_size j (by omega)]; omega⟩
  · obtain ⟨s, E, h1, rfl, _, h4⟩ := h.item hu
    refine .mk _ (by simp [textT, T.names]) (by simp [textT, T.items]) (by simp [textT, T.exts]; omega) (by simp [textT, T.names]) (fun hk => by simp [textT, T.kind] at hk) (by simp [textT, T.items])
end Go.Proofs.YtkmojgdjapfbbaaDoor
