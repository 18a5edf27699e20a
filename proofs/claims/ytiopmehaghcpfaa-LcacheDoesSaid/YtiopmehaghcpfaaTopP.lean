/- WholeRoom: the plain part: one cache and shards beside it. -/
import Derived.Test.YtiopmehaghcpfaaShard2
namespace Go.Proofs.Ytiopmehaghcpfaa
open Go.RowKit Go.Maps

abbrev PL := List (ByteArray × Int)
/-- A pair stands first, and its key nowhere else. -/
def useL (k : ByteArray) (x : Int) (l : PL) : PL := (k, x) :: l.filter (fun p => decide (p.1 ≠ k))
theorem useL_nodup (k : ByteArray) (x : Int) (l : PL) (h : (l.map (·.1)).Nodup) : ((useL k x l).map (·.1)).Nodup := nodup_use l (k, x) h
theorem useL_len (k : ByteArray) (x : Int) (l : PL) : (useL k x l).length ≤ l.length + 1 := by
  unfold useL
  have := List.length_filter_le (fun p : ByteArray × Int => decide (p.1 ≠ k)) l
  rw [List.length_cons]
  omega
theorem mem_useL (k : ByteArray) (x : Int) (l : PL) (p : ByteArray × Int) : p ∈ useL k x l ↔ p = (k, x) ∨ (p ∈ l ∧ p.1 ≠ k) := by
  unfold useL
  rw [List.mem_cons, List.mem_filter]
  simp
/-- A Put that finds room. -/
theorem putIs_fits (r : Int) (l : PL) (k : ByteArray) (x : Int) (hn : (l.map (·.1)).Nodup) (hl : l.length < 900000) (hr : (l.length : Int) < r) : PutIs r l k x (useL k x l) ⟨#[]⟩ false := by
  intro w base g v h hb
  by_cases hk : keyAt k l < l.length
  · unfold useL
    rw [← erase_key k l hn]
    exact put_hit_S base g r v l k x w h (by omega) _ rfl hk
  · unfold useL
    rw [filter_none k l (by rwa [keyAt_lt] at hk)]
    exact put_room_S base g r v l k x w h hl _ rfl hk hr hb
/-- A Put, whatever the room. -/
theorem putIs_any (r : Int) (l : PL) (k : ByteArray) (x : Int) (hn : (l.map (·.1)).Nodup) (hl : l.length < 900000) (hf : (l.length : Int) ≤ r) (h1 : 1 ≤ r) :
    ∃ (l' : PL) (gone : ByteArray) (is : Bool), PutIs r l k x l' gone is ∧ (l'.map (·.1)).Nodup ∧ (l'.length : Int) ≤ r ∧ l'.length ≤ l.length + 1 ∧ ∀ p, p ∈ l' → p = (k, x) ∨ (p ∈ l ∧ p.1 ≠ k) := by
  by_cases hr : (l.length : Int) < r
  · have := useL_len k x l
    exact ⟨_, _, _, putIs_fits r l k x hn hl hr, useL_nodup k x l hn, by omega, this, fun p hp => (mem_useL k x l p).1 hp⟩
  · by_cases hk : keyAt k l < l.length
    · have hlen := len_use_hit l (k, x) hn hk
      refine ⟨useL k x l, ⟨#[]⟩, false, fun w base g v h hb => ?_, useL_nodup k x l hn, by have h2 : (useL k x l).length = l.length := hlen; omega, useL_len k x l, fun p hp => (mem_useL k x l p).1 hp⟩
      unfold useL
      rw [← erase_key k l hn]
      exact put_hit_S base g r v l k x w h (by omega) _ rfl hk
    · have hno : k ∉ l.map (·.1) := by rwa [keyAt_lt] at hk
      have hlt : l.length - 1 < l.length := by omega
      refine ⟨(k, x) :: l.eraseIdx (l.length - 1), (l[l.length - 1]'hlt).1, true, fun w base g v h hb => put_evict_S base g r v l k x w h (by omega) _ rfl hk (by omega) (by omega), ?_, ?_, ?_, ?_⟩
      · rw [List.map_cons, List.nodup_cons]
        refine ⟨fun hm => hno ?_, hn.sublist (List.Sublist.map _ (List.eraseIdx_sublist _ _))⟩
        exact (List.Sublist.map _ (List.eraseIdx_sublist l (l.length - 1))).subset hm
      · rw [List.length_cons, List.length_eraseIdx, if_pos hlt]; omega
      · rw [List.length_cons, List.length_eraseIdx, if_pos hlt]; omega
      · intro p hp
        rcases List.mem_cons.1 hp with rfl | hp
        · exact .inl rfl
        · have hm := (List.eraseIdx_sublist l (l.length - 1)).subset hp
          refine .inr ⟨hm, fun e => hno ?_⟩
          rw [← e]
          exact List.mem_map_of_mem hm
/-- A Get that finds it. -/
theorem getIs_hit (r : Int) (l : PL) (k : ByteArray) (x : Int) (hn : (l.map (·.1)).Nodup) (hl : l.length < 900000) (hm : (k, x) ∈ l) : GetIs r l k (useL k x l) x true := by
  intro w base g v h
  have hk : keyAt k l < l.length := by rw [keyAt_lt]; exact List.mem_map_of_mem hm
  have hkk := keyAt_hit k l hk
  have hx : l[keyAt k l] = (k, x) := by
    have h1 := List.getElem_mem hk
    exact key_one l hn h1 hm hkk
  have := get_hit_S base g r v l k w h (by omega) _ rfl hk
  rw [hx, erase_key k l hn] at this
  exact this
where
  key_one (l : PL) (hn : (l.map (·.1)).Nodup) {p q : ByteArray × Int} (hp : p ∈ l) (hq : q ∈ l) (e : p.1 = q.1) : p = q := by
    induction l with
    | nil => cases hp
    | cons a l ih =>
      rw [List.map_cons, List.nodup_cons] at hn
      rcases List.mem_cons.1 hp with rfl | hp' <;> rcases List.mem_cons.1 hq with rfl | hq'
      · rfl
      · exact absurd (show q.1 ∈ l.map (·.1) from List.mem_map_of_mem hq') (by rw [← e]; exact hn.1)
      · exact absurd (show p.1 ∈ l.map (·.1) from List.mem_map_of_mem hp') (by rw [e]; exact hn.1)
      · exact ih hn.2 hp' hq'
theorem getIs_not (r : Int) (l : PL) (k : ByteArray) (hl : l.length < 900000) (hk : k ∉ l.map (·.1)) : GetIs r l k l 0 false := by
  intro w base g v h
  exact get_not_S base g r v l k w h (by omega) _ rfl (by rwa [keyAt_lt])
theorem getIs_any (r : Int) (l : PL) (k : ByteArray) (hn : (l.map (·.1)).Nodup) (hl : l.length < 900000) :
    ∃ (l' : PL) (x : Int) (ok : Bool), GetIs r l k l' x ok ∧ (l'.map (·.1)).Nodup ∧ l'.length = l.length ∧ (∀ p, p ∈ l' → p ∈ l) ∧ (ok = true → (k, x) ∈ l) := by
  by_cases hk : k ∈ l.map (·.1)
  · obtain ⟨p, hp, rfl⟩ := List.mem_map.1 hk
    refine ⟨useL p.1 p.2 l, p.2, true, getIs_hit r l p.1 p.2 hn hl hp, useL_nodup _ _ l hn, ?_, fun q hq => ?_, fun _ => hp⟩
    · exact len_use_hit l p hn (by rw [keyAt_lt]; exact hk)
    · rcases (mem_useL _ _ l q).1 hq with rfl | h
      · exact hp
      · exact h.1
  · exact ⟨l, 0, false, getIs_not r l k hl hk, hn, rfl, fun _ h => h, fun h => by cases h⟩

/-- Which shard. -/
def shd (n : Nat) (k : ByteArray) : Nat := Fnv.sum (Fnv.bsOf k) % n
theorem shd_lt {n : Nat} (h : 0 < n) (k : ByteArray) : shd n k < n := Nat.mod_lt _ h
/-- What of a list is in shard j. -/
def part (n : Nat) (l : PL) (j : Nat) : PL := l.filter (fun p => decide (shd n p.1 = j))
theorem part_use (n : Nat) (l : PL) (k : ByteArray) (x : Int) : part n (useL k x l) (shd n k) = useL k x (part n l (shd n k)) := by
  unfold part useL
  rw [List.filter_cons_of_pos (by simp), List.filter_filter, List.filter_filter]
  congr 1
  apply List.filter_congr
  intro p _
  rw [Bool.and_comm]
theorem part_use_other (n : Nat) (l : PL) (k : ByteArray) (x : Int) (j : Nat) (h : j ≠ shd n k) : part n (useL k x l) j = part n l j := by
  unfold part useL
  rw [List.filter_cons_of_neg (by simpa using Ne.symm h), List.filter_filter]
  apply List.filter_congr
  intro p _
  by_cases e : p.1 = k
  · subst e
    simp [Ne.symm h]
  · simp [e]
theorem part_nodup (n : Nat) (l : PL) (j : Nat) (h : (l.map (·.1)).Nodup) : ((part n l j).map (·.1)).Nodup := h.sublist (List.Sublist.map _ List.filter_sublist)
theorem part_len (n : Nat) (l : PL) (j : Nat) : (part n l j).length ≤ l.length := List.length_filter_le _ _
/-- The parts' lengths, added up. -/
def total (L : Nat → Nat) : Nat → Nat
  | 0 => 0
  | k + 1 => total L k + L k
theorem total_zero (m : Nat) : total (fun _ => 0) m = 0 := by
  induction m with
  | zero => rfl
  | succ m ih => simp [total, ih]
theorem total_add (A B : Nat → Nat) (m : Nat) : total (fun j => A j + B j) m = total A m + total B m := by
  induction m with
  | zero => rfl
  | succ m ih => simp only [total, ih]; omega
theorem total_one (i m : Nat) : total (fun j => if i = j then 1 else 0) m = if i < m then 1 else 0 := by
  induction m with
  | zero => simp [total]
  | succ m ih =>
    simp only [total, ih]
    by_cases h1 : i < m
    · rw [if_pos h1, if_neg (by omega), if_pos (by omega)]
    · by_cases h2 : i = m
      · rw [if_neg h1, if_pos h2, if_pos (by omega)]
      · rw [if_neg h1, if_neg h2, if_neg (by omega)]
theorem total_parts (n : Nat) (hn : 0 < n) (l : PL) : total (fun j => (part n l j).length) n = l.length := by
  induction l with
  | nil => exact total_zero n
  | cons p l ih =>
    have e : (fun j => (part n (p :: l) j).length) = fun j => (part n l j).length + (if shd n p.1 = j then 1 else 0) := by
      funext j
      unfold part
      by_cases h : shd n p.1 = j
      · rw [List.filter_cons_of_pos (by simpa using h), if_pos h, List.length_cons]
      · rw [List.filter_cons_of_neg (by simpa using h), if_neg h, Nat.add_zero]
    rw [e, total_add, ih, total_one, if_pos (shd_lt hn _), List.length_cons]
theorem total_le (L : Nat → Nat) (b : Nat) (m : Nat) (h : total L m ≤ b) : ∀ k, k ≤ m → total L k ≤ b := by
  induction m with
  | zero =>
    intro k hk
    have : k = 0 := by omega
    subst this
    exact h
  | succ m ih =>
    intro k hk
    by_cases e : k = m + 1
    · subst e; exact h
    · exact ih (by simp only [total] at h; omega) k (by omega)
end Go.Proofs.Ytiopmehaghcpfaa
