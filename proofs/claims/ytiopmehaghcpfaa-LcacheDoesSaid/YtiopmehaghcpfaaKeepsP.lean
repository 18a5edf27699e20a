/- LruKeeps: the plain part: a cache's list and the map beside it. -/
import Derived.Test.YtiopmehaghcpfaaLruP
namespace Go.Proofs.Ytiopmehaghcpfaa
open Go.RowKit Go.Maps

theorem keyAt_cons {κ β : Type} [DecidableEq κ] (k : κ) (p : κ × β) (l : List (κ × β)) : keyAt k (p :: l) = if p.1 = k then 0 else keyAt k l + 1 := by
  unfold keyAt
  rw [List.findIdx_cons]
  by_cases h : p.1 = k <;> simp [h]
theorem keyAt_lt {κ β : Type} [DecidableEq κ] (k : κ) (l : List (κ × β)) : keyAt k l < l.length ↔ k ∈ l.map (·.1) := by
  induction l with
  | nil => simp [keyAt]
  | cons p l ih =>
    rw [keyAt_cons]
    by_cases h : p.1 = k
    · simp [h]
    · simp only [h, if_false, List.length_cons, List.map_cons, List.mem_cons, Nat.add_lt_add_iff_right, ih]
      constructor
      · exact .inr
      · rintro (e | e)
        · exact absurd e.symm h
        · exact e
theorem erase_key {κ β : Type} [DecidableEq κ] (k : κ) (l : List (κ × β)) (h : (l.map (·.1)).Nodup) : l.eraseIdx (keyAt k l) = l.filter (fun p => decide (p.1 ≠ k)) := by
  induction l with
  | nil => simp
  | cons p l ih =>
    rw [keyAt_cons]
    simp only [List.map_cons, List.nodup_cons] at h
    by_cases e : p.1 = k
    · rw [if_pos e, List.eraseIdx_cons_zero, List.filter_cons_of_neg (by simpa using e)]
      symm
      rw [List.filter_eq_self]
      intro q hq
      simp
      rintro rfl
      exact h.1 (by rw [e]; exact List.mem_map_of_mem hq)
    · rw [if_neg e, List.eraseIdx_cons_succ, List.filter_cons_of_pos (by simpa using e), ih h.2]
theorem filter_none {κ β : Type} [DecidableEq κ] (k : κ) (l : List (κ × β)) (h : k ∉ l.map (·.1)) : l.filter (fun p => decide (p.1 ≠ k)) = l := by
  rw [List.filter_eq_self]
  intro q hq
  simp
  rintro rfl
  exact h (List.mem_map_of_mem hq)

/-- Different numbers below n are at most n. -/
theorem pigeon (n : Nat) : ∀ ks : List Int, ks.Nodup → (∀ k ∈ ks, 0 ≤ k ∧ k < n) → ks.length ≤ n := by
  induction n with
  | zero =>
    intro ks _ h
    cases ks with
    | nil => simp
    | cons k ks => have := h k (by simp); omega
  | succ n ih =>
    intro ks hn h
    by_cases hm : (n : Int) ∈ ks
    · have h1 := ih (ks.erase (n : Int)) (hn.erase _) (fun k hk => by
        have h2 := (hn.mem_erase_iff).1 hk
        have := h k h2.2
        have h3 := h2.1
        omega)
      rw [List.length_erase_of_mem hm] at h1
      omega
    · have := ih ks hn (fun k hk => by
        have h2 := h k hk
        have h3 : k ≠ (n : Int) := by rintro rfl; exact hm hk
        omega)
      omega

def iOf (id : Int) : Lit := .int .i64 id
theorem isKey_iOf (id : Int) : WideAt.IsKeyLit (iOf id) := by simp [iOf, WideAt.IsKeyLit]
theorem iOf_inj {a b : Int} : iOf a = iOf b ↔ a = b := by simp [iOf]

theorem has_nil (k : Lit) : Maps.has (.map [] : DataW Int) k = false := rfl
/-- A cache's list and a map that says the same. -/
structure Fit (l : List (Int × Int)) (D : DataW Int) (n : Nat) : Prop where
  nodup : (l.map (·.1)).Nodup
  rng : ∀ p ∈ l, 0 ≤ p.1 ∧ p.1 < n
  has : ∀ j, Maps.has D (iOf j) = decide (j ∈ l.map (·.1))
  val : ∀ p ∈ l, atK D (iOf p.1) 0 = p.2
theorem Fit.nil (n : Nat) : Fit [] (.map []) n := ⟨by simp, by simp, fun j => by rw [has_nil]; simp, by simp⟩
theorem Fit.len {l : List (Int × Int)} {D : DataW Int} {n : Nat} (h : Fit l D n) : l.length ≤ n := by
  have := pigeon n (l.map (·.1)) h.nodup (fun k hk => by
    obtain ⟨p, hp, rfl⟩ := List.mem_map.1 hk
    exact h.rng p hp)
  simpa using this
theorem nodup_filter (l : List (Int × Int)) (k : Int) (h : (l.map (·.1)).Nodup) : ((l.filter (fun p => decide (p.1 ≠ k))).map (·.1)).Nodup :=
  h.sublist (List.Sublist.map _ List.filter_sublist)
theorem mem_keys_filter (l : List (Int × Int)) (k j : Int) : j ∈ (l.filter (fun p => decide (p.1 ≠ k))).map (·.1) ↔ j ≠ k ∧ j ∈ l.map (·.1) := by
  simp only [List.mem_map, List.mem_filter]
  constructor
  · rintro ⟨p, ⟨hp, hk⟩, rfl⟩
    exact ⟨by simpa using hk, p, hp, rfl⟩
  · rintro ⟨hk, p, hp, rfl⟩
    exact ⟨p, ⟨hp, by simpa using hk⟩, rfl⟩
theorem Fit.put {l : List (Int × Int)} {D : DataW Int} {n : Nat} (h : Fit l D n) (hD : IsMap D) (k x : Int) (h0 : 0 ≤ k) (h1 : k < n) : Fit ((k, x) :: l.filter (fun p => decide (p.1 ≠ k))) (D.put (iOf k) (.held x)) n := by
  refine ⟨?_, ?_, ?_, ?_⟩
  · rw [List.map_cons, List.nodup_cons]
    exact ⟨fun hm => ((mem_keys_filter l k k).1 hm).1 rfl, nodup_filter l k h.nodup⟩
  · intro p hp
    rcases List.mem_cons.1 hp with rfl | hp
    · exact ⟨h0, h1⟩
    · exact h.rng p (List.mem_filter.1 hp).1
  · intro j
    by_cases e : j = k
    · subst e
      rw [has_put_same hD (isKey_iOf _)]
      simp
    · rw [has_put_other (by rw [Ne, iOf_inj]; exact e), h.has]
      congr 1
      apply propext
      rw [List.map_cons, List.mem_cons, mem_keys_filter]
      simp [e]
  · intro p hp
    rcases List.mem_cons.1 hp with rfl | hp
    · exact atK_put_same hD (isKey_iOf _) _ _
    · have hp' := List.mem_filter.1 hp
      rw [atK_put_other (by rw [Ne, iOf_inj]; simpa using hp'.2)]
      exact h.val p hp'.1
theorem Fit.touch {l : List (Int × Int)} {D : DataW Int} {n : Nat} (h : Fit l D n) (p : Int × Int) (hp : p ∈ l) : Fit (p :: l.filter (fun q => decide (q.1 ≠ p.1))) D n := by
  refine ⟨?_, ?_, ?_, ?_⟩
  · rw [List.map_cons, List.nodup_cons]
    exact ⟨fun hm => ((mem_keys_filter l _ _).1 hm).1 rfl, nodup_filter l _ h.nodup⟩
  · intro q hq
    rcases List.mem_cons.1 hq with rfl | hq
    · exact h.rng q hp
    · exact h.rng q (List.mem_filter.1 hq).1
  · intro j
    rw [h.has]
    congr 1
    apply propext
    rw [List.map_cons, List.mem_cons, mem_keys_filter]
    by_cases e : j = p.1
    · subst e; simp; exact ⟨p.2, hp⟩
    · simp [e]
  · intro q hq
    rcases List.mem_cons.1 hq with rfl | hq
    · exact h.val q hp
    · exact h.val q (List.mem_filter.1 hq).1
/-- A new key finds room. -/
theorem Fit.room {l : List (Int × Int)} {D : DataW Int} {n : Nat} (h : Fit l D n) (hD : IsMap D) (k : Int) (h0 : 0 ≤ k) (h1 : k < n) (hk : ¬ keyAt k l < l.length) : l.length < n := by
  have := (h.put hD k 0 h0 h1).len
  rw [filter_none k l (by rwa [keyAt_lt] at hk)] at this
  simp at this
  omega
/-- What a key of the map has in the list. -/
theorem Fit.at {l : List (Int × Int)} {D : DataW Int} {n : Nat} (h : Fit l D n) (k c : Int) (hh : Maps.has D (iOf k) = true) (hc : atK D (iOf k) 0 = c) : ∃ hl : keyAt k l < l.length, l[keyAt k l] = (k, c) := by
  rw [h.has, decide_eq_true_iff, ← keyAt_lt] at hh
  refine ⟨hh, ?_⟩
  have h1 := keyAt_hit k l hh
  have h2 := h.val _ (List.getElem_mem hh)
  rw [h1, hc] at h2
  exact Prod.ext h1 h2.symm
theorem Fit.out {l : List (Int × Int)} {D : DataW Int} {n : Nat} (h : Fit l D n) : ¬ keyAt (n : Int) l < l.length := by
  rw [keyAt_lt]
  intro hm
  obtain ⟨p, hp, e⟩ := List.mem_map.1 hm
  have := h.rng p hp
  omega

theorem map_ne_row {P : Program} {k : TypeId} {R : Value → Option (DataW Int × List MemPlace)} {w : World} {b n : Nat} {D : DataW Int} {base e size m : Nat} {v : Value} {xs : List Value}
    (h : w.ownsMap P k R b n D) (hr : w.ownsRow base e size v m xs) : ∀ i, v.ownBlock = some i → i ≠ b := by
  rintro i hi rfl
  obtain ⟨es, clock, hb, _⟩ := h
  rcases hr.2 with ⟨rfl, _⟩ | ⟨r, cap, cur, rfl, _, hh, _⟩
  · simp [Value.ownBlock] at hi
  · have : r = i := by simpa [Value.ownBlock] using hi
    subst this
    rw [hb] at hh
    cases hh
end Go.Proofs.Ytiopmehaghcpfaa
