/- WholeEpochs: its state and the calls on it. Printed by mac.py from EpP.src. -/
import Derived.Test.YtiopmehaghcpfaaDcE2
import Derived.Test.YtiopmehaghcpfaaDcE3
import Derived.Test.YtiopmehaghcpfaaOnceP
namespace Go.Proofs.Ytiopmehaghcpfaa.Ep
open Go.Proofs.Ytiopmehaghcpfaa
open Go.RowKit Go.Maps
set_option linter.unusedSimpArgs false
set_option linter.unusedVariables false

abbrev law9 := L.law9
abbrev keyS := L.keyS
theorem up_self {α : Type} (f : Nat → α) (i : Nat) : up f i (f i) = f := by
  funext j
  unfold up
  split
  · rename_i h; rw [h]
  · rfl
def decU (v : Value) : Option Int := match v with
  | .int .u8 a => some a
  | _ => none
theorem decU_inv (v : Value) (x : Int) (h : decU v = some x) : v = .int .u8 x := by
  unfold decU at h
  split at h
  · cases h; rfl
  · cases h

/-! ### What a cache's call leaves of other things. -/
section
variable {w0 w w' : World} {g gs n : Nat} {r hits misses : Int} {vs : Value} {G : Nat → Nat} {V : Nat → Value} {Ls : Nat → E.PL} {i : Nat}
/-- The blocks that a call of the cache of entries writes. -/
theorem Dc.out (h : E.Dc w0 w g gs n r hits misses vs G V Ls) (hi : i < n) : ∀ k, (k = g ∨ k = G i ∨ some k = (V i).ownBlock) → w0.heap.size ≤ k := by
  rintro k (e | e | e)
  · rw [e]; exact h.hg
  · rw [e]; exact h.fam.ge i hi
  · exact row_base (h.fam.lru i hi).row k e
theorem Dc.apartBlk (h : E.Dc w0 w g gs n r hits misses vs G V Ls) (hi : i < n) {b t : Nat} {cs : Array Value} (hx : Blk w b t cs) (h1 : t ≠ 137) (h2 : t ≠ 163) (h3 : t ≠ 168) : ¬ (b = g ∨ b = G i ∨ some b = (V i).ownBlock) := by
  rintro (e | e | e)
  · exact hx.ne_ h.blk h1 e
  · exact hx.ne_ (h.fam.lru i hi).blk h2 e
  · exact row_ne (h.fam.lru i hi).row hx h3 e
theorem Dc.apartRow (h : E.Dc w0 w g gs n r hits misses vs G V Ls) (hi : i < n) {b e sz m : Nat} {v : Value} {xs : List Value} (hx : w.ownsRow b e sz v m xs) (h1 : 137 ≠ e) (h2 : 163 ≠ e) (h3 : e ≠ 168) : ∀ k, v.ownBlock = some k → ¬ (k = g ∨ k = G i ∨ some k = (V i).ownBlock) := by
  rintro k hk' (e | e | e)
  · exact row_ne hx h.blk h1 (by rw [hk', e])
  · exact row_ne hx (h.fam.lru i hi).blk h2 (by rw [hk', e])
  · exact row_ne_row hx (h.fam.lru i hi).row h3 k hk' e
theorem Dc.apartMap (h : E.Dc w0 w g gs n r hits misses vs G V Ls) (hi : i < n) {bm m : Nat} {D : DataW Int} (hx : w.ownsMap Try.prog 9 (rdr decU) bm m D) : ¬ (bm = g ∨ bm = G i ∨ some bm = (V i).ownBlock) := by
  rintro (e | e | e)
  · exact map_ne_blk hx h.blk e
  · exact map_ne_blk hx (h.fam.lru i hi).blk e
  · exact L.map_ne_row2 hx (h.fam.lru i hi).row e
/-- The cache of entries beside a writing of blocks that are not its own. -/
theorem Dc.keepS {S : Nat → Prop} (h : E.Dc w0 w g gs n r hits misses vs G V Ls) (hk : Keep S w w') (hS : ∀ k, S k → w0.heap.size ≤ k) (hb : ∀ b t cs, Blk w b t cs → (t = 137 ∨ t = 153 ∨ t = 163) → ¬ S b) (hr : ∀ b e m v xs sz, w.ownsRow b e sz v m xs → (e = 154 ∨ e = 168) → ∀ k, v.ownBlock = some k → ¬ S k) : E.Dc w0 w' g gs n r hits misses vs G V Ls :=
  ⟨h.blk.keep hk (hb _ _ _ h.blk (.inl rfl)), h.sh.keep hk (hb _ _ _ h.sh.blk (.inr (.inl rfl))) (hr _ _ _ _ _ _ h.sh.row (.inl rfl)),
    h.fam.keep hk (fun i hi => hb _ _ _ (h.fam.lru i hi).blk (.inr (.inr rfl))) (fun i k hi hk' => hr _ _ _ _ _ _ (h.fam.lru i hi).row (.inr rfl) k hk'), below_keep h.below h.below.size hk hS, h.hg⟩
end
section
variable {w0 w w' : World} {g gs n : Nat} {r made : Int} {vs : Value} {G : Nat → Nat} {V : Nat → Value} {Ls : Nat → L.PL} {i : Nat}
theorem Lc.out (h : L.Lc w0 w g gs n r made vs G V Ls) (hi : i < n) : ∀ k, (k = g ∨ k = G i ∨ some k = (V i).ownBlock) → w0.heap.size ≤ k := by
  rintro k (e | e | e)
  · rw [e]; exact h.hg
  · rw [e]; exact h.fam.ge i hi
  · exact row_base (h.fam.lru i hi).row k e
theorem Lc.apartBlk (h : L.Lc w0 w g gs n r made vs G V Ls) (hi : i < n) {b t : Nat} {cs : Array Value} (hx : Blk w b t cs) (h1 : t ≠ 143) (h2 : t ≠ 166) (h3 : t ≠ 171) : ¬ (b = g ∨ b = G i ∨ some b = (V i).ownBlock) := by
  rintro (e | e | e)
  · exact hx.ne_ h.blk h1 e
  · exact hx.ne_ (h.fam.lru i hi).blk h2 e
  · exact row_ne (h.fam.lru i hi).row hx h3 e
theorem Lc.apartRow (h : L.Lc w0 w g gs n r made vs G V Ls) (hi : i < n) {b e sz m : Nat} {v : Value} {xs : List Value} (hx : w.ownsRow b e sz v m xs) (h1 : 143 ≠ e) (h2 : 166 ≠ e) (h3 : e ≠ 171) : ∀ k, v.ownBlock = some k → ¬ (k = g ∨ k = G i ∨ some k = (V i).ownBlock) := by
  rintro k hk' (e | e | e)
  · exact row_ne hx h.blk h1 (by rw [hk', e])
  · exact row_ne hx (h.fam.lru i hi).blk h2 (by rw [hk', e])
  · exact row_ne_row hx (h.fam.lru i hi).row h3 k hk' e
theorem Lc.apartMap (h : L.Lc w0 w g gs n r made vs G V Ls) (hi : i < n) {bm m : Nat} {D : DataW Int} (hx : w.ownsMap Try.prog 9 (rdr decU) bm m D) : ¬ (bm = g ∨ bm = G i ∨ some bm = (V i).ownBlock) := by
  rintro (e | e | e)
  · exact map_ne_blk hx h.blk e
  · exact map_ne_blk hx (h.fam.lru i hi).blk e
  · exact L.map_ne_row2 hx (h.fam.lru i hi).row e
theorem Lc.keepS {S : Nat → Prop} (h : L.Lc w0 w g gs n r made vs G V Ls) (hk : Keep S w w') (hS : ∀ k, S k → w0.heap.size ≤ k) (hb : ∀ b t cs, Blk w b t cs → (t = 143 ∨ t = 158 ∨ t = 166) → ¬ S b) (hr : ∀ b e m v xs sz, w.ownsRow b e sz v m xs → (e = 159 ∨ e = 171) → ∀ k, v.ownBlock = some k → ¬ S k) : L.Lc w0 w' g gs n r made vs G V Ls :=
  ⟨h.blk.keep hk (hb _ _ _ h.blk (.inl rfl)), h.sh.keep hk (hb _ _ _ h.sh.blk (.inr (.inl rfl))) (hr _ _ _ _ _ _ h.sh.row (.inl rfl)),
    h.fam.keep hk (fun i hi => hb _ _ _ (h.fam.lru i hi).blk (.inr (.inr rfl))) (fun i k hi hk' => hr _ _ _ _ _ _ (h.fam.lru i hi).row (.inr rfl) k hk'), below_keep h.below h.below.size hk hS, h.hg⟩
end

/-- The law's two caches and its map. -/
structure Est (w0 w : World) (n : Nat) (r : Int) (g gs : Nat) (hits misses : Int) (vs : Value) (G : Nat → Nat) (V : Nat → Value) (Ls : Nat → E.PL) (g2 gs2 : Nat) (vs2 : Value) (G2 : Nat → Nat) (V2 : Nat → Value) (Ls2 : Nat → L.PL) (bm : Nat) (D : DataW Int) : Prop where
  dc : E.Dc w0 w g gs n r hits misses vs G V Ls
  lc : L.Lc w0 w g2 gs2 n r 0 vs2 G2 V2 Ls2
  map : w.ownsMap Try.prog 9 (rdr decU) bm (Maps.size D) D
  hb : w0.heap.size ≤ bm
  erow : ∀ j, j < n → ∀ q ∈ Ls j, q.2.n = 0 ∧ w.ownsRow w0.heap.size 70 2 (.slice q.2.A 0 q.2.c) 0 []
  lrow : ∀ j, j < n → ∀ q ∈ Ls2 j, q.2.n = 1 ∧ ∃ s : ByteArray, w.ownsRow w0.heap.size 83 2 (.slice q.2.A 1 q.2.c) 1 [.string s, .int .i64 q.2.ep]

/-- What the names' lists and the map say of one another. -/
structure EFit (n : Nat) (r : Int) (q : Nat) (Ls : Nat → E.PL) (D : DataW Int) : Prop where
  nd : ∀ j, j < n → ((Ls j).map (·.1)).Nodup
  len : ∀ j, j < n → ((Ls j).length : Int) ≤ r ∧ (Ls j).length ≤ q
  ent : ∀ j, j < n → ∀ p ∈ Ls j, p.1 = sl ++ p.2.tg ∧ shd n p.1 = j ∧ Maps.has D (keyS p.2.tg) = true ∧ atK D (keyS p.2.tg) 0 = p.2.ep
structure LFit (n : Nat) (r : Int) (q : Nat) (Ls : Nat → L.PL) : Prop where
  nd : ∀ j, j < n → ((Ls j).map (·.1)).Nodup
  len : ∀ j, j < n → ((Ls j).length : Int) ≤ r ∧ (Ls j).length ≤ q

theorem useL_mem (k : ByteArray) (x : E.Pay) (l : E.PL) (hm : (k, x) ∈ l) : ∀ q, q ∈ E.useL k x l → q ∈ l := fun q hq => by
  rcases (E.mem_useL k x l q).1 hq with rfl | h
  · exact hm
  · exact h.1
theorem useL_memL (k : ByteArray) (x : L.Pay) (l : L.PL) (hm : (k, x) ∈ l) : ∀ q, q ∈ L.useL k x l → q ∈ l := fun q hq => by
  rcases (L.mem_useL k x l q).1 hq with rfl | h
  · exact hm
  · exact h.1
theorem up_mem {α : Type} {Ls : Nat → List α} {i : Nat} {l' : List α} (h : ∀ q, q ∈ l' → q ∈ Ls i) : ∀ j q, q ∈ up Ls i l' j → q ∈ Ls j := by
  intro j q hq
  by_cases e : j = i
  · subst e; rw [up_same] at hq; exact h q hq
  · rw [up_other _ _ _ e] at hq; exact hq
theorem EFit.use {n : Nat} {r : Int} {q : Nat} {Ls : Nat → E.PL} {D : DataW Int} (h : EFit n r q Ls D) (i : Nat) (hi : i < n) (k : ByteArray) (x : E.Pay) (hm : (k, x) ∈ Ls i) : EFit n r q (up Ls i (E.useL k x (Ls i))) D := by
  have hl : (E.useL k x (Ls i)).length = (Ls i).length := E.len_use_hit (Ls i) (k, x) (h.nd i hi) (by rw [keyAt_lt]; exact List.mem_map_of_mem hm)
  refine ⟨fun j hj => ?_, fun j hj => ?_, fun j hj p hp => h.ent j hj p (up_mem (useL_mem k x _ hm) j p hp)⟩
  · by_cases e : j = i
    · subst e; rw [up_same]; exact E.useL_nodup k x _ (h.nd j hj)
    · rw [up_other _ _ _ e]; exact h.nd j hj
  · by_cases e : j = i
    · subst e; rw [up_same, hl]; exact h.len j hj
    · rw [up_other _ _ _ e]; exact h.len j hj
theorem LFit.use {n : Nat} {r : Int} {q : Nat} {Ls : Nat → L.PL} (h : LFit n r q Ls) (i : Nat) (hi : i < n) (k : ByteArray) (x : L.Pay) (hm : (k, x) ∈ Ls i) : LFit n r q (up Ls i (L.useL k x (Ls i))) := by
  have hl : (L.useL k x (Ls i)).length = (Ls i).length := L.len_use_hit (Ls i) (k, x) (h.nd i hi) (by rw [keyAt_lt]; exact List.mem_map_of_mem hm)
  refine ⟨fun j hj => ?_, fun j hj => ?_⟩
  · by_cases e : j = i
    · subst e; rw [up_same]; exact L.useL_nodup k x _ (h.nd j hj)
    · rw [up_other _ _ _ e]; exact h.nd j hj
  · by_cases e : j = i
    · subst e; rw [up_same, hl]; exact h.len j hj
    · rw [up_other _ _ _ e]; exact h.len j hj
theorem EFit.mono {n : Nat} {r : Int} {q q' : Nat} {Ls : Nat → E.PL} {D : DataW Int} (h : EFit n r q Ls D) (hq : q ≤ q') : EFit n r q' Ls D := ⟨h.nd, fun j hj => ⟨(h.len j hj).1, Nat.le_trans (h.len j hj).2 hq⟩, h.ent⟩
theorem LFit.mono {n : Nat} {r : Int} {q q' : Nat} {Ls : Nat → L.PL} (h : LFit n r q Ls) (hq : q ≤ q') : LFit n r q' Ls := ⟨h.nd, fun j hj => ⟨(h.len j hj).1, Nat.le_trans (h.len j hj).2 hq⟩⟩

section
variable {w0 w w' : World} {n : Nat} {r : Int} {g gs : Nat} {hits misses : Int} {vs : Value} {G : Nat → Nat} {V : Nat → Value} {Ls : Nat → E.PL} {g2 gs2 : Nat} {vs2 : Value} {G2 : Nat → Nat} {V2 : Nat → Value} {Ls2 : Nat → L.PL} {bm : Nat} {D : DataW Int}
theorem Est.below (h : Est w0 w n r g gs hits misses vs G V Ls g2 gs2 vs2 G2 V2 Ls2 bm D) (hb : Below w.heap.size w w') : Est w0 w' n r g gs hits misses vs G V Ls g2 gs2 vs2 G2 V2 Ls2 bm D :=
  ⟨h.dc.grow hb, h.lc.grow hb, ownsMap_keep h.map (Keep.of_below (S := fun _ => False) hb) (by simp), h.hb, fun j hj q hq => ⟨(h.erow j hj q hq).1, row_below (h.erow j hj q hq).2 hb⟩,
    fun j hj q hq => ⟨(h.lrow j hj q hq).1, by obtain ⟨s, hs⟩ := (h.lrow j hj q hq).2; exact ⟨s, row_below hs hb⟩⟩⟩
/-- Behind a call of the names' cache. -/
theorem Est.byE (h : Est w0 w n r g gs hits misses vs G V Ls g2 gs2 vs2 G2 V2 Ls2 bm D) {i : Nat} (hi : i < n) (hk : E.KeepC g G V i w w') {hits' misses' : Int} {V' : Nat → Value} {Ls' : Nat → E.PL} (hd : E.Dc w0 w' g gs n r hits' misses' vs G V' Ls')
    (her : ∀ j, j < n → ∀ q ∈ Ls' j, q ∈ Ls j ∨ (q.2.n = 0 ∧ w'.ownsRow w0.heap.size 70 2 (.slice q.2.A 0 q.2.c) 0 [])) : Est w0 w' n r g gs hits' misses' vs G V' Ls' g2 gs2 vs2 G2 V2 Ls2 bm D := by
  refine ⟨hd, Lc.keepS h.lc hk (Dc.out h.dc hi) (fun b t cs hx ht => Dc.apartBlk h.dc hi hx ?_ ?_ ?_) (fun b e m v xs sz hx he => Dc.apartRow h.dc hi hx ?_ ?_ ?_), ownsMap_keep h.map hk (Dc.apartMap h.dc hi h.map), h.hb, fun j hj q hq => ?_, fun j hj q hq => ⟨(h.lrow j hj q hq).1, ?_⟩⟩
  any_goals (rcases ht with rfl | rfl | rfl <;> decide)
  any_goals (rcases he with rfl | rfl <;> decide)
  · rcases her j hj q hq with h1 | h1
    · exact ⟨(h.erow j hj q h1).1, row_keep (h.erow j hj q h1).2 hk (Dc.apartRow h.dc hi (h.erow j hj q h1).2 (by decide) (by decide) (by decide))⟩
    · exact h1
  · obtain ⟨s, hs⟩ := (h.lrow j hj q hq).2
    exact ⟨s, row_keep hs hk (Dc.apartRow h.dc hi hs (by decide) (by decide) (by decide))⟩
/-- Behind a call of the lists' cache. -/
theorem Est.byL (h : Est w0 w n r g gs hits misses vs G V Ls g2 gs2 vs2 G2 V2 Ls2 bm D) {i : Nat} (hi : i < n) (hk : L.KeepC g2 G2 V2 i w w') {V' : Nat → Value} {Ls' : Nat → L.PL} (hd : L.Lc w0 w' g2 gs2 n r 0 vs2 G2 V' Ls')
    (hlr : ∀ j, j < n → ∀ q ∈ Ls' j, q ∈ Ls2 j ∨ (q.2.n = 1 ∧ ∃ s : ByteArray, w'.ownsRow w0.heap.size 83 2 (.slice q.2.A 1 q.2.c) 1 [.string s, .int .i64 q.2.ep])) : Est w0 w' n r g gs hits misses vs G V Ls g2 gs2 vs2 G2 V' Ls' bm D := by
  refine ⟨Dc.keepS h.dc hk (Lc.out h.lc hi) (fun b t cs hx ht => Lc.apartBlk h.lc hi hx ?_ ?_ ?_) (fun b e m v xs sz hx he => Lc.apartRow h.lc hi hx ?_ ?_ ?_), hd, ownsMap_keep h.map hk (Lc.apartMap h.lc hi h.map), h.hb, fun j hj q hq => ⟨(h.erow j hj q hq).1, ?_⟩, fun j hj q hq => ?_⟩
  any_goals (rcases ht with rfl | rfl | rfl <;> decide)
  any_goals (rcases he with rfl | rfl <;> decide)
  · exact row_keep (h.erow j hj q hq).2 hk (Lc.apartRow h.lc hi (h.erow j hj q hq).2 (by decide) (by decide) (by decide))
  · rcases hlr j hj q hq with h1 | h1
    · obtain ⟨s, hs⟩ := (h.lrow j hj q h1).2
      exact ⟨(h.lrow j hj q h1).1, s, row_keep hs hk (Lc.apartRow h.lc hi hs (by decide) (by decide) (by decide))⟩
    · exact h1
/-- Behind a store into the map. -/
theorem Est.byM (h : Est w0 w n r g gs hits misses vs G V Ls g2 gs2 vs2 G2 V2 Ls2 bm D) {m : Nat} {D' : DataW Int} (ho : w'.ownsMap Try.prog 9 (rdr decU) bm m D') (ht : w.mapTurned w' bm) : Est w0 w' n r g gs hits misses vs G V Ls g2 gs2 vs2 G2 V2 Ls2 bm D' := by
  have hk : Keep (fun k => k = bm) w w' := (Keep.refl _ w).turned ht (fun _ => rfl)
  have hS : ∀ k, k = bm → w0.heap.size ≤ k := fun k e => by rw [e]; exact h.hb
  have hb : ∀ b t cs, Blk w b t cs → ¬ b = bm := fun b t cs hx e => map_ne_blk h.map hx e.symm
  have hr : ∀ b e m v xs sz, w.ownsRow b e sz v m xs → ∀ k, v.ownBlock = some k → ¬ k = bm := fun b e m v xs sz hx k hk' e' => map_ne_row h.map hx k hk' e'
  refine ⟨Dc.keepS h.dc hk hS (fun b t cs hx _ => hb b t cs hx) (fun b e m v xs sz hx _ => hr b e m v xs sz hx), Lc.keepS h.lc hk hS (fun b t cs hx _ => hb b t cs hx) (fun b e m v xs sz hx _ => hr b e m v xs sz hx), ownsMap_tight ho, h.hb, fun j hj q hq => ⟨(h.erow j hj q hq).1, row_keep (h.erow j hj q hq).2 hk (hr _ _ _ _ _ _ (h.erow j hj q hq).2)⟩, fun j hj q hq => ⟨(h.lrow j hj q hq).1, ?_⟩⟩
  obtain ⟨s, hs⟩ := (h.lrow j hj q hq).2
  exact ⟨s, row_keep hs hk (hr _ _ _ _ _ _ hs)⟩
end
end Go.Proofs.Ytiopmehaghcpfaa.Ep
