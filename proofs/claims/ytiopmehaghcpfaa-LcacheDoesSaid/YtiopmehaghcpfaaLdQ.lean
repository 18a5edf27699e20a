/- LcacheDoes: its state and the calls on it. Printed by mac.py from LdQ.src. -/
import Derived.Test.YtiopmehaghcpfaaLdP
import Derived.Test.YtiopmehaghcpfaaLdT
import Derived.Test.YtiopmehaghcpfaaEpP
namespace Go.Proofs.Ytiopmehaghcpfaa.Ld
open Go.Proofs.Ytiopmehaghcpfaa
open Go.RowKit Go.Maps
set_option linter.unusedSimpArgs false
set_option linter.unusedVariables false

abbrev law9 := L.law9
abbrev keyS := L.keyS
/-- An act of the law, as the map keeps it. -/
structure AV where
  kd : Int
  d : Int
  ep : Int
  mn : Int
def encA (a : AV) : Value := .agg #[.int .u8 a.kd, .int .u8 a.d, .int .i64 a.ep, .int .u8 a.mn]
theorem encA_inj {a b : AV} (h : encA a = encA b) : a = b := by
  cases a; cases b
  simp [encA] at h
  obtain ⟨rfl, rfl, rfl, rfl⟩ := h
  rfl
open Classical in
noncomputable def decA (v : Value) : Option AV := if h : ∃ a, v = encA a then some h.choose else none
theorem decA_enc (a : AV) : decA (encA a) = some a := by
  have h : ∃ b, encA a = encA b := ⟨a, rfl⟩
  unfold decA
  rw [dif_pos h]
  exact congrArg some (encA_inj h.choose_spec.symm)
theorem decA_inv (v : Value) (x : AV) (h : decA v = some x) : v = encA x := by
  unfold decA at h
  split at h
  · rename_i he
    cases h
    exact he.choose_spec
  · cases h
def zA : AV := ⟨0, 0, 0, 0⟩
theorem map_ne_rowA {α : Type} {P : Program} {k : TypeId} {R : Value → Option (DataW α × List MemPlace)} {w : World} {b n : Nat} {D : DataW α} {base e size m : Nat} {v : Value} {xs : List Value}
    (h : w.ownsMap P k R b n D) (hr : w.ownsRow base e size v m xs) : ∀ i, v.ownBlock = some i → i ≠ b := by
  rintro i hi rfl
  obtain ⟨es, clock, hb, _⟩ := h
  rcases hr.2 with ⟨rfl, _⟩ | ⟨r, cap, cur, rfl, _, hh, _⟩
  · simp [Value.ownBlock] at hi
  · have : r = i := by simpa [Value.ownBlock] using hi
    subst this
    rw [hb] at hh
    cases hh

/-- What of a key was kept: how many. -/
def LRow (w : World) (base : Nat) (M : ByteArray → Int) (q : ByteArray × L.Pay) : Prop := 0 ≤ M q.1 ∧ M q.1 ≤ 255 ∧ M q.1 % 5 = (q.2.n : Int) ∧ w.ownsRow base 83 2 (.slice q.2.A q.2.n q.2.c) q.2.n (L.entC (M q.1) q.2.n)
/-- The cache, the law's map, and what the cache's entries hold. -/
structure Lst (w0 w : World) (n : Nat) (r : Int) (g gs : Nat) (made : Int) (vs : Value) (G : Nat → Nat) (V : Nat → Value) (Ls : Nat → L.PL) (bm : Nat) (D : DataW AV) (M : ByteArray → Int) : Prop where
  lc : L.Lc w0 w g gs n r made vs G V Ls
  map : w.ownsMap Try.prog 9 (rdr decA) bm (Maps.size D) D
  hb : w0.heap.size ≤ bm
  lrow : ∀ j, j < n → ∀ q ∈ Ls j, LRow w w0.heap.size M q
structure LFit (n : Nat) (r : Int) (q : Nat) (Ls : Nat → L.PL) (D : DataW AV) (M : ByteArray → Int) : Prop where
  nd : ∀ j, j < n → ((Ls j).map (·.1)).Nodup
  len : ∀ j, j < n → ((Ls j).length : Int) ≤ r ∧ (Ls j).length ≤ q
  ent : ∀ j, j < n → ∀ p ∈ Ls j, shd n p.1 = j ∧ p.2.ep = (atK D (keyS p.1) zA).ep ∧ M p.1 = (atK D (keyS p.1) zA).mn

section
variable {w0 w w' : World} {n : Nat} {r : Int} {g gs : Nat} {made : Int} {vs : Value} {G : Nat → Nat} {V : Nat → Value} {Ls : Nat → L.PL} {bm : Nat} {D : DataW AV} {M : ByteArray → Int} {q i : Nat} {k : ByteArray}
theorem touch_mem (hn : ((Ls i).map (·.1)).Nodup) : ∀ p, p ∈ touch k (Ls i) → p ∈ Ls i := by
  intro p hp
  by_cases hk : k ∈ (Ls i).map (·.1)
  · obtain ⟨q, hq, rfl⟩ := List.mem_map.1 hk
    rw [touch_hit (x := q.2) hn hq] at hp
    exact Ep.useL_memL _ _ _ hq p hp
  · rw [touch_not hk] at hp; exact hp
theorem touch_nodup (hn : ((Ls i).map (·.1)).Nodup) : ((touch k (Ls i)).map (·.1)).Nodup := by
  by_cases hk : k ∈ (Ls i).map (·.1)
  · obtain ⟨q, hq, rfl⟩ := List.mem_map.1 hk
    rw [touch_hit (x := q.2) hn hq]
    exact L.useL_nodup _ _ _ hn
  · rw [touch_not hk]; exact hn
theorem touch_length (hn : ((Ls i).map (·.1)).Nodup) : (touch k (Ls i)).length = (Ls i).length := by
  by_cases hk : k ∈ (Ls i).map (·.1)
  · obtain ⟨q, hq, rfl⟩ := List.mem_map.1 hk
    rw [touch_hit (x := q.2) hn hq]
    exact L.len_use_hit (Ls i) q hn (by rw [keyAt_lt]; exact hk)
  · rw [touch_not hk]
/-- A Get of a cache, whatever is there; and once more. -/
theorem get_touch (hn : ((Ls i).map (·.1)).Nodup) (hl : (Ls i).length < 900000) : ∃ (x : L.Pay) (ok : Bool), L.GetIs r (Ls i) k (touch k (Ls i)) x ok ∧ L.GetIs r (touch k (Ls i)) k (touch k (Ls i)) x ok ∧ (ok = true → (k, x) ∈ Ls i) ∧ (ok = false → k ∉ (Ls i).map (·.1)) := by
  by_cases hk : k ∈ (Ls i).map (·.1)
  · obtain ⟨q, hq, rfl⟩ := List.mem_map.1 hk
    have hl2 : (L.useL q.1 q.2 (Ls i)).length = (Ls i).length := L.len_use_hit (Ls i) q hn (by rw [keyAt_lt]; exact hk)
    rw [touch_hit (x := q.2) hn hq]
    refine ⟨q.2, true, L.getIs_hit r (Ls i) q.1 q.2 hn hl hq, ?_, fun _ => hq, (fun h => by cases h)⟩
    have h2 := L.getIs_hit r (L.useL q.1 q.2 (Ls i)) q.1 q.2 (L.useL_nodup _ _ _ hn) (by omega) ((L.mem_useL _ _ _ _).2 (.inl rfl))
    have e : L.useL q.1 q.2 (L.useL q.1 q.2 (Ls i)) = L.useL q.1 q.2 (Ls i) := by
      unfold L.useL
      rw [List.filter_cons_of_neg (by simp), List.filter_filter]
      simp
    rw [e] at h2
    exact h2
  · rw [touch_not hk]
    exact ⟨_, false, L.getIs_not r (Ls i) k hl hk, L.getIs_not r (Ls i) k hl hk, (fun h => by cases h), fun _ => hk⟩
theorem LFit.touch (h : LFit n r q Ls D M) (hi : i < n) (k : ByteArray) : LFit n r q (up Ls i (touch k (Ls i))) D M := by
  refine ⟨fun j hj => ?_, fun j hj => ?_, fun j hj p hp => h.ent j hj p (Ep.up_mem (touch_mem (h.nd i hi)) j p hp)⟩
  · by_cases e : j = i
    · subst e; rw [up_same]; exact touch_nodup (h.nd j hj)
    · rw [up_other _ _ _ e]; exact h.nd j hj
  · by_cases e : j = i
    · subst e; rw [up_same, touch_length (h.nd j hj)]; exact h.len j hj
    · rw [up_other _ _ _ e]; exact h.len j hj
theorem LFit.mono {q' : Nat} (h : LFit n r q Ls D M) (hq : q ≤ q') : LFit n r q' Ls D M := ⟨h.nd, fun j hj => ⟨(h.len j hj).1, Nat.le_trans (h.len j hj).2 hq⟩, h.ent⟩
/-- How many, behind a Keep. -/
def upM (M : ByteArray → Int) (k : ByteArray) (m : Int) : ByteArray → Int := fun k' => if k' = k then m else M k'
theorem upM_same (M : ByteArray → Int) (k : ByteArray) (m : Int) : upM M k m k = m := if_pos rfl
theorem upM_other {M : ByteArray → Int} {k k' : ByteArray} {m : Int} (h : k' ≠ k) : upM M k m k' = M k' := if_neg h
theorem LFit.put (h : LFit n r q Ls D M) (hD : IsMap D) (hr : 0 ≤ r) (hi : i < n) (k : ByteArray) (hki : shd n k = i) (a : AV) (x : L.Pay) (hx : x.ep = a.ep) : LFit n r (q + 1) (up Ls i (putL r k x (Ls i))) (D.put (keyS k) (.held a)) (upM M k a.mn) := by
  have old : ∀ j, j < n → ∀ p, p ∈ Ls j → p.1 ≠ k → shd n p.1 = j ∧ p.2.ep = (atK (D.put (keyS k) (.held a)) (keyS p.1) zA).ep ∧ upM M k a.mn p.1 = (atK (D.put (keyS k) (.held a)) (keyS p.1) zA).mn := by
    intro j hj p hp hne
    rw [atK_put_other (by rw [Ne, L.keyS_inj]; exact hne), upM_other hne]
    exact h.ent j hj p hp
  refine ⟨fun j hj => ?_, fun j hj => ?_, fun j hj p hp => ?_⟩
  · by_cases e : j = i
    · subst e; rw [up_same]; exact putL_nodup (h.nd j hj)
    · rw [up_other _ _ _ e]; exact h.nd j hj
  · by_cases e : j = i
    · subst e; rw [up_same]; exact ⟨putL_length hr, by have := putL_le r k x (Ls j); have := (h.len j hj).2; omega⟩
    · rw [up_other _ _ _ e]; exact ⟨(h.len j hj).1, by have := (h.len j hj).2; omega⟩
  · by_cases e : j = i
    · subst e
      rw [up_same] at hp
      rcases putL_mem hp with rfl | ⟨hp, hne⟩
      · rw [atK_put_same hD (L.isKey_S _), upM_same]
        exact ⟨hki, hx, rfl⟩
      · exact old j hj p hp hne
    · rw [up_other _ _ _ e] at hp
      exact old j hj p hp (fun h' => e (by have := (h.ent j hj p hp).1; rw [h', hki] at this; exact this.symm))

theorem LRow.keep {base : Nat} {p : ByteArray × L.Pay} {S : Nat → Prop} (h : LRow w base M p) (hk : Keep S w w') (hS : ∀ k, (Value.slice p.2.A p.2.n p.2.c).ownBlock = some k → ¬ S k) : LRow w' base M p := ⟨h.1, h.2.1, h.2.2.1, row_keep h.2.2.2 hk hS⟩
theorem Lst.below (h : Lst w0 w n r g gs made vs G V Ls bm D M) (hb : Below w.heap.size w w') : Lst w0 w' n r g gs made vs G V Ls bm D M :=
  ⟨h.lc.grow hb, ownsMap_keep h.map (Keep.of_below (S := fun _ => False) hb) (by simp), h.hb, fun j hj q hq => (h.lrow j hj q hq).keep (Keep.of_below (S := fun _ => False) hb) (by simp)⟩
theorem Lst.drewN (h : Lst w0 w n r g gs made vs G V Ls bm D M) (m : Nat) : Lst w0 (w.drewN m) n r g gs made vs G V Ls bm D M := ⟨h.lc.drewN m, h.map, h.hb, h.lrow⟩
theorem Lst.drew (h : Lst w0 w n r g gs made vs G V Ls bm D M) : Lst w0 w.drew n r g gs made vs G V Ls bm D M := h.drewN 1
/-- Behind a call of the cache. -/
theorem Lst.byL (h : Lst w0 w n r g gs made vs G V Ls bm D M) (hi : i < n) (hk : L.KeepC g G V i w w') {made' : Int} {V' : Nat → Value} {Ls' : Nat → L.PL} {M' : ByteArray → Int} (hd : L.Lc w0 w' g gs n r made' vs G V' Ls')
    (her : ∀ j, j < n → ∀ q ∈ Ls' j, (q ∈ Ls j ∧ M' q.1 = M q.1) ∨ LRow w' w0.heap.size M' q) : Lst w0 w' n r g gs made' vs G V' Ls' bm D M' := by
  refine ⟨hd, ownsMap_keep h.map hk ?_, h.hb, fun j hj q hq => ?_⟩
  · rintro (e | e | e)
    · exact map_ne_blk h.map h.lc.blk e
    · exact map_ne_blk h.map (h.lc.fam.lru i hi).blk e
    · exact map_ne_rowA h.map (h.lc.fam.lru i hi).row bm e.symm rfl
  · rcases her j hj q hq with ⟨h1, h2⟩ | h1
    · have := (h.lrow j hj q h1).keep hk (Ep.Lc.apartRow h.lc hi (h.lrow j hj q h1).2.2.2 (by decide) (by decide) (by decide))
      unfold LRow at this ⊢
      rw [h2]
      exact this
    · exact h1
/-- Behind a store that is not the cache's. -/
theorem Lst.byS (h : Lst w0 w n r g gs made vs G V Ls bm D M) {S : Nat → Prop} (hk : Keep S w w') (hS : ∀ k, S k → w0.heap.size ≤ k) (hb : ∀ b t cs, Blk w b t cs → (t = 143 ∨ t = 158 ∨ t = 166) → ¬ S b) (hr : ∀ b e m v xs sz, w.ownsRow b e sz v m xs → (e = 159 ∨ e = 171) → ∀ k, v.ownBlock = some k → ¬ S k)
    (hc : ∀ j, j < n → ∀ p ∈ Ls j, ∀ k, (Value.slice p.2.A p.2.n p.2.c).ownBlock = some k → ¬ S k) {m : Nat} {D' : DataW AV} (hm : w'.ownsMap Try.prog 9 (rdr decA) bm m D') : Lst w0 w' n r g gs made vs G V Ls bm D' M :=
  ⟨Ep.Lc.keepS h.lc hk hS hb hr, ownsMap_tight hm, h.hb, fun j hj p hp => (h.lrow j hj p hp).keep hk (hc j hj p hp)⟩
theorem Lst.byMap (h : Lst w0 w n r g gs made vs G V Ls bm D M) {m : Nat} {D' : DataW AV} (hm : w'.ownsMap Try.prog 9 (rdr decA) bm m D') (ht : w.mapTurned w' bm) : Lst w0 w' n r g gs made vs G V Ls bm D' M :=
  h.byS ((Keep.refl (fun k => k = bm) w).turned ht (fun _ => rfl)) (fun k e => by rw [e]; exact h.hb) (fun b t cs hx _ e => map_ne_blk h.map hx e.symm) (fun b e m v xs sz hx _ k hk e' => map_ne_rowA h.map hx k hk e') (fun j hj p hp k hk e' => map_ne_rowA h.map (h.lrow j hj p hp).2.2.2 k hk e') hm
/-- Behind a store into a row of another kind, or into one that is not remembered. -/
theorem Lst.byRow (h : Lst w0 w n r g gs made vs G V Ls bm D M) {R cap m : Nat} {xs : List Value} (hr : w.ownsRow w0.heap.size 43 1 (.slice (some ⟨R, 0, none⟩) m cap) m xs) (hk : Keep (fun k => k = R) w w') : Lst w0 w' n r g gs made vs G V Ls bm D M :=
  h.byS hk (fun k e => by rw [e]; exact row_base hr R rfl) (fun b t cs hx ht e => row_ne hr hx (by rcases ht with rfl | rfl | rfl <;> decide) (by rw [e]; rfl)) (fun b e m v xs sz hx he k hk' e' => row_ne_row hx hr (by rcases he with rfl | rfl <;> decide) k hk' (by rw [e']; rfl))
    (fun j hj p hp k hk' e' => row_ne_row (h.lrow j hj p hp).2.2.2 hr (by decide) k hk' (by rw [e']; rfl)) (ownsMap_keep h.map hk (fun e => map_ne_rowA h.map hr bm (by rw [e]; rfl) rfl))
theorem Lst.byOwn (h : Lst w0 w n r g gs made vs G V Ls bm D M) {b R m : Nat} {v : Value} {xs : List Value} (hv : v.ownBlock = some R) (hr : w.ownsRow b 83 2 v m xs) (hb : w0.heap.size ≤ R) (hne : ∀ j, j < n → ∀ p ∈ Ls j, ∀ k, (Value.slice p.2.A p.2.n p.2.c).ownBlock = some k → k ≠ R) (hk : Keep (fun k => k = R) w w') : Lst w0 w' n r g gs made vs G V Ls bm D M :=
  h.byS hk (fun k e => by rw [e]; exact hb) (fun b t cs hx ht e => row_ne hr hx (by rcases ht with rfl | rfl | rfl <;> decide) (by rw [e, hv])) (fun b e m v' xs sz hx he k hk' e' => row_ne_row hx hr (by rcases he with rfl | rfl <;> decide) k hk' (by rw [e', hv])) hne
    (ownsMap_keep h.map hk (fun e => map_ne_rowA h.map hr R hv e.symm))
end
end Go.Proofs.Ytiopmehaghcpfaa.Ld
