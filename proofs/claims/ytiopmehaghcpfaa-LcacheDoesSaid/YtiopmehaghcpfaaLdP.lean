/- LcacheDoes: the plain part, and the lists of the reference. Printed by mac.py from LdP.src. -/
import Derived.Test.YtiopmehaghcpfaaFamL
import Derived.Test.YtiopmehaghcpfaaRef
namespace Go.Proofs.Ytiopmehaghcpfaa.Ld
open Go.Proofs.Ytiopmehaghcpfaa
open Go.RowKit Go.Maps
set_option linter.unusedSimpArgs false
set_option linter.unusedVariables false

/-- The keys of a list, as the reference keeps them. -/
def zl (l : L.PL) : List (ByteArray × Int) := l.map (fun p => (p.1, (0 : Int)))
theorem zl_length (l : L.PL) : (zl l).length = l.length := by simp [zl]
theorem zl_keyAt (k : ByteArray) (l : L.PL) : keyAt k (zl l) = keyAt k l := by
  unfold keyAt zl
  rw [List.findIdx_map]
  rfl
theorem zl_filter (k : ByteArray) (l : L.PL) : (zl l).filter (fun p => decide (p.1 ≠ k)) = zl (l.filter (fun p => decide (p.1 ≠ k))) := by
  unfold zl
  rw [List.filter_map]
  rfl
theorem zl_use (k : ByteArray) (x : L.Pay) (l : L.PL) : (k, (0 : Int)) :: (zl l).filter (fun p => decide (p.1 ≠ k)) = zl (L.useL k x l) := by
  rw [zl_filter]
  rfl
/-- A key that is there is moved ahead. -/
def touch (k : ByteArray) (l : L.PL) : L.PL := match l.find? (fun p => decide (p.1 = k)) with
  | some p => L.useL k p.2 l
  | none => l
theorem touch_hit {k : ByteArray} {x : L.Pay} {l : L.PL} (hn : (l.map (·.1)).Nodup) (hm : (k, x) ∈ l) : touch k l = L.useL k x l := by
  unfold touch
  cases hf : l.find? (fun p => decide (p.1 = k)) with
  | none =>
    have := List.find?_eq_none.1 hf (k, x) hm
    simp at this
  | some p =>
    have h1 := List.find?_some hf
    have h2 := List.mem_of_find?_eq_some hf
    simp at h1
    have := L.getIs_hit.key_one l hn h2 hm h1
    rw [this]
theorem touch_not {k : ByteArray} {l : L.PL} (hk : k ∉ l.map (·.1)) : touch k l = l := by
  unfold touch
  cases hf : l.find? (fun p => decide (p.1 = k)) with
  | none => rfl
  | some p =>
    have h1 := List.find?_some hf
    have h2 := List.mem_of_find?_eq_some hf
    simp at h1
    exact absurd (by rw [← h1]; exact List.mem_map_of_mem h2) hk
/-- What a Put leaves. -/
def putL (r : Int) (k : ByteArray) (x : L.Pay) (l : L.PL) : L.PL := (L.useL k x l).take r.toNat
theorem putL_length {r : Int} {k : ByteArray} {x : L.Pay} {l : L.PL} (h : 0 ≤ r) : ((putL r k x l).length : Int) ≤ r := by
  unfold putL
  rw [List.length_take]
  omega
theorem putL_le (r : Int) (k : ByteArray) (x : L.Pay) (l : L.PL) : (putL r k x l).length ≤ l.length + 1 := by
  have := L.useL_len k x l
  unfold putL
  rw [List.length_take]
  omega
theorem putL_nodup {r : Int} {k : ByteArray} {x : L.Pay} {l : L.PL} (h : (l.map (·.1)).Nodup) : ((putL r k x l).map (·.1)).Nodup :=
  (L.useL_nodup k x l h).sublist (List.Sublist.map _ (List.take_sublist _ _))
theorem putL_mem {r : Int} {k : ByteArray} {x : L.Pay} {l : L.PL} {p : ByteArray × L.Pay} (h : p ∈ putL r k x l) : p = (k, x) ∨ (p ∈ l ∧ p.1 ≠ k) := (L.mem_useL k x l p).1 ((List.take_sublist _ _).subset h)
theorem putL_keys (r : Int) (k : ByteArray) (x y : L.Pay) (l : L.PL) : zl (putL r k x l) = zl (putL r k y l) := by
  unfold putL zl L.useL
  rw [List.map_take, List.map_take]
  rfl
theorem putL_is (r : Int) (l : L.PL) (k : ByteArray) (x : L.Pay) (hn : (l.map (·.1)).Nodup) (hl : l.length < 900000) (hf : (l.length : Int) ≤ r) (h1 : 1 ≤ r) : ∃ gone is, L.PutIs r l k x (putL r k x l) gone is := by
  by_cases hr : (l.length : Int) < r
  · have e : putL r k x l = L.useL k x l := by
      unfold putL
      have := L.useL_len k x l
      exact List.take_of_length_le (by omega)
    rw [e]
    exact ⟨_, _, L.putIs_fits r l k x hn hl hr⟩
  · by_cases hk : keyAt k l < l.length
    · have hlen := L.len_use_hit l (k, x) hn hk
      have e : putL r k x l = L.useL k x l := by
        unfold putL
        have h2 : (L.useL k x l).length = l.length := hlen
        exact List.take_of_length_le (by omega)
      rw [e]
      refine ⟨⟨#[]⟩, false, fun w base g v h hb => ?_⟩
      unfold L.useL
      rw [← erase_key k l hn]
      exact L.put_hit_S base g r v l k x w h (by omega) _ rfl hk
    · have hno : k ∉ l.map (·.1) := by rwa [keyAt_lt] at hk
      have hlt : l.length - 1 < l.length := by omega
      have e : putL r k x l = (k, x) :: l.eraseIdx (l.length - 1) := by
        unfold putL L.useL
        rw [filter_none k l hno]
        obtain ⟨m, hm⟩ : ∃ m, r.toNat = m + 1 := ⟨r.toNat - 1, by omega⟩
        rw [hm, List.take_succ_cons, List.eraseIdx_eq_take_drop_succ, List.drop_of_length_le (by omega), List.append_nil]
        congr 2
        omega
      rw [e]
      exact ⟨(l[l.length - 1]'hlt).1, true, fun w base g v h hb => L.put_evict_S base g r v l k x w h (by omega) _ rfl hk (by omega) (by omega)⟩
def Put13Is (l : List (ByteArray × Int)) (w : World) (e : Ending) (w' : World) : Prop :=
  ∃ (A : Option Addr) (c : Nat) (gone : ByteArray) (is : Bool), e = .returned (.tuple #[.slice A l.length c, .string gone, .bool is]) ∧ Pairs w' w.heap.size (.slice A l.length c) l ∧ Below w.heap.size w w'
theorem put13_is (base : Nat) (v : Value) (r : Int) (l : L.PL) (k : ByteArray) (x : L.Pay) (w : World) (h : Pairs w base v (zl l)) (hl : l.length < 900000) (hf : (l.length : Int) ≤ r) (h1 : 1 ≤ r) :
    Calls Try.prog 31 #[v, .int .i64 r, .agg #[.string k, .int .i64 0]] w (Put13Is (zl (putL r k x l)) w) := by
  have huse := zl_use k x l
  by_cases hr : ((zl (L.useL k x l)).length : Int) ≤ r
  · have e : putL r k x l = L.useL k x l := by
      unfold putL
      rw [zl_length] at hr
      exact List.take_of_length_le (by omega)
    rw [e]
    refine (Put13_fits base v (zl l) r (k, 0) w h (by rw [zl_length]; exact hl) (by rw [show ((k, (0 : Int)) :: (zl l).filter (fun p => decide (p.1 ≠ (k, (0 : Int)).1))) = zl (L.useL k x l) from huse]; exact hr)).mono ?_
    rintro e w' ⟨v', rfl, hp, hb⟩
    rw [show ((k, (0 : Int)) :: (zl l).filter (fun p => decide (p.1 ≠ (k, (0 : Int)).1))) = zl (L.useL k x l) from huse] at hp
    obtain ⟨A, c, rfl⟩ := own_slice hp
    exact ⟨A, c, _, _, rfl, hp, hb⟩
  · have hlen := L.useL_len k x l
    have hz := zl_length (L.useL k x l)
    obtain ⟨m, hm⟩ : ∃ m, (zl (L.useL k x l)).length = m + 1 := ⟨(zl (L.useL k x l)).length - 1, by omega⟩
    refine (Put13_full base v (zl l) r (k, 0) w h (by rw [zl_length]; exact hl) (zl (L.useL k x l)) huse.symm m hm (by omega)).mono ?_
    rintro e w' ⟨v', rfl, hp, hb⟩
    have e : (zl (L.useL k x l)).take m = zl (putL r k x l) := by
      unfold putL zl
      rw [List.map_take]
      congr 1
      omega
    rw [e] at hp
    obtain ⟨A, c, rfl⟩ := own_slice hp
    exact ⟨A, c, _, _, rfl, hp, hb⟩

/-! ### The law's shards of pairs. -/
structure PSt (w : World) (base R cap n : Nat) (PV : Nat → Value) (Lp : Nat → L.PL) : Prop where
  row : w.ownsRow base 43 1 (.slice (some ⟨R, 0, none⟩) n cap) n ((List.range n).map PV)
  prs : ∀ j, j < n → Pairs w base (PV j) (zl (Lp j))
section
variable {w w' : World} {base R cap n : Nat} {PV : Nat → Value} {Lp : Nat → L.PL}
theorem PSt.keep {S : Nat → Prop} (h : PSt w base R cap n PV Lp) (hk : Keep S w w') (h1 : ¬ S R) (h2 : ∀ j, j < n → ∀ k, (PV j).ownBlock = some k → ¬ S k) : PSt w' base R cap n PV Lp :=
  ⟨row_keep h.row hk (fun k hk' hs => by
    have e : R = k := by simpa [Value.ownBlock] using hk'
    subst e
    exact h1 hs), fun j hj => row_keep (h.prs j hj) hk (h2 j hj)⟩
theorem PSt.below (h : PSt w base R cap n PV Lp) (hb : Below w.heap.size w w') : PSt w' base R cap n PV Lp := h.keep (S := fun _ => False) (Keep.of_below hb) (by simp) (by simp)
theorem PSt.drewN (h : PSt w base R cap n PV Lp) (m : Nat) : PSt (w.drewN m) base R cap n PV Lp := ⟨h.row, h.prs⟩
theorem PSt.cell (h : PSt w base R cap n PV Lp) (j : Nat) (hj : j < n) : w.cell? ⟨R, j, none⟩ = some (PV j) := by
  rw [h.row.cellAt _ (by omega)]
  simp [hj]
theorem PSt.lt (h : PSt w base R cap n PV Lp) : R < w.heap.size := row_lt h.row R rfl
theorem PSt.frozen (h : PSt w base R cap n PV Lp) (j : Nat) : w.frozen? ⟨R, j, none⟩ = false := h.row.frozenAt j
theorem PSt.apart (h : PSt w base R cap n PV Lp) (j : Nat) (hj : j < n) : ∀ k, (PV j).ownBlock = some k → k ≠ R := fun k hk e => row_ne_row (h.prs j hj) h.row (by decide) k hk (by rw [e]; rfl)
theorem PSt.capn (h : PSt w base R cap n PV Lp) : n ≤ cap := by
  rcases h.row.2 with ⟨e, _⟩ | ⟨r, cap', cur, e, _, _, hc, _⟩
  · cases e
  · cases e; exact hc
theorem map_set (PV : Nat → Value) (n j : Nat) (u : Value) : ((List.range n).map PV).set j u = (List.range n).map (up PV j u) := by
  apply List.ext_getElem
  · simp
  · intro i h1 h2
    simp at h1
    rw [List.getElem_set]
    simp [up]
    split <;> split <;> first | rfl | omega
theorem PSt.set (h : PSt w base R cap n PV Lp) (j : Nat) (hj : j < n) (u : Value) (l : L.PL) (hu : Pairs w base u (zl l)) (h1 : u.oneCell' = true) : PSt (w.setCell ⟨R, j, none⟩ u) base R cap n (up PV j u) (up Lp j l) ∧ Keep (fun k => k = R) w (w.setCell ⟨R, j, none⟩ u) := by
  have hk : Keep (fun k => k = R) w (w.setCell ⟨R, j, none⟩ u) := L.kset2 (Keep.refl _ w)
  refine ⟨⟨?_, fun i hi => ?_⟩, hk⟩
  · have := (h.row.stored j u).1
    rw [map_set] at this
    exact this
  · by_cases e : i = j
    · subst e
      rw [up_same, up_same]
      exact row_keep hu hk (fun k hk' e => row_ne_row hu h.row (by decide) k hk' (by rw [e]; rfl))
    · rw [up_other _ _ _ e, up_other _ _ _ e]
      exact row_keep (h.prs i hi) hk (fun k hk' e => h.apart i hi k hk' e)
end
end Go.Proofs.Ytiopmehaghcpfaa.Ld
