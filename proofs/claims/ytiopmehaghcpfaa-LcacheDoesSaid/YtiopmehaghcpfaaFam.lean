/- Families of caches, all apart; shards: a block with a row of pointers to caches. -/
import Derived.Test.YtiopmehaghcpfaaDoesP
import Derived.Test.YtiopmehaghcpfaaFnv
import Derived.Deep.RegionWith
namespace Go.Proofs.Ytiopmehaghcpfaa
open Go.RowKit Go.Maps
attribute [local go_sem ↓] run_max_int run_min_int

def up {α : Type} (f : Nat → α) (i : Nat) (x : α) : Nat → α := fun j => if j = i then x else f j
theorem up_same {α : Type} (f : Nat → α) (i : Nat) (x : α) : up f i x i = x := if_pos rfl
theorem up_other {α : Type} (f : Nat → α) (i : Nat) (x : α) {j : Nat} (h : j ≠ i) : up f i x j = f j := if_neg h

structure Fam (w : World) (base m : Nat) (R : Nat → Int) (G : Nat → Nat) (V : Nat → Value) (Ls : Nat → List (ByteArray × Int)) : Prop where
  lru : ∀ i, i < m → LruS w base (G i) (R i) (V i) (Ls i)
  ge : ∀ i, i < m → base ≤ G i
  gs : ∀ i j, i < m → j < m → G i = G j → i = j
  vs : ∀ i j k, i < m → j < m → (V i).ownBlock = some k → (V j).ownBlock = some k → i = j
section
variable {w w' : World} {base m : Nat} {R : Nat → Int} {G : Nat → Nat} {V : Nat → Value} {Ls : Nat → List (ByteArray × Int)}
theorem Fam.keep {S : Nat → Prop} (h : Fam w base m R G V Ls) (hk : Keep S w w') (h1 : ∀ i, i < m → ¬ S (G i)) (h2 : ∀ i k, i < m → (V i).ownBlock = some k → ¬ S k) : Fam w' base m R G V Ls :=
  ⟨fun i hi => (h.lru i hi).keep hk (h1 i hi) (fun k e => h2 i k hi e), h.ge, h.gs, h.vs⟩
theorem Fam.below (h : Fam w base m R G V Ls) (hb : Below w.heap.size w w') : Fam w' base m R G V Ls := h.keep (S := fun _ => False) (Keep.of_below hb) (by simp) (by simp)
theorem Fam.nil (w : World) (base : Nat) (R : Nat → Int) (G : Nat → Nat) (V : Nat → Value) (Ls : Nat → List (ByteArray × Int)) : Fam w base 0 R G V Ls :=
  ⟨fun i h => by omega, fun i h => by omega, fun i j h => by omega, fun i j k h => by omega⟩
/-- A cache's blocks are no other cache's. -/
theorem Fam.apart (h : Fam w base m R G V Ls) {i j : Nat} (hi : i < m) (hj : j < m) (hne : j ≠ i) : ¬ (G j = G i ∨ some (G j) = (V i).ownBlock) ∧ ∀ k, (V j).ownBlock = some k → ¬ (k = G i ∨ some k = (V i).ownBlock) := by
  refine ⟨?_, ?_⟩
  · rintro (e | e)
    · exact hne (h.gs j i hj hi e)
    · exact row_ne (h.lru i hi).row (h.lru j hj).blk (by decide) e
  · rintro k hk (e | e)
    · exact row_ne (h.lru j hj).row (h.lru i hi).blk (by decide) (by rw [hk, e])
    · exact hne (h.vs j i k hj hi hk e.symm)
theorem Fam.got (h : Fam w base m R G V Ls) {i : Nat} (hi : i < m) {l' : List (ByteArray × Int)} (hl' : LruS w' base (G i) (R i) (V i) l') (hk : Keep (fun k => some k = (V i).ownBlock) w w') : Fam w' base m R G V (up Ls i l') := by
  refine ⟨fun j hj => ?_, h.ge, h.gs, h.vs⟩
  by_cases e : j = i
  · subst e; rw [up_same]; exact hl'
  · rw [up_other _ _ _ e]
    have ha := h.apart hi hj e
    exact (h.lru j hj).keep hk (fun e' => ha.1 (.inr e')) (fun k hk' e' => ha.2 k hk' (.inr e'))
theorem Fam.putt (h : Fam w base m R G V Ls) {i : Nat} (hi : i < m) {l' : List (ByteArray × Int)} {v' : Value} (hl' : LruS w' base (G i) (R i) v' l') (hk : Keep (fun k => k = G i ∨ some k = (V i).ownBlock) w w') (hloc : Loc (V i) v' w) : Fam w' base m R G (up V i v') (up Ls i l') := by
  have hnew : ∀ j k, j < m → j ≠ i → (V j).ownBlock = some k → ¬ v'.ownBlock = some k := by
    intro j k hj hne hjk hv
    have hlt := row_lt (h.lru j hj).row k hjk.symm
    exact hne (h.vs j i k hj hi hjk (hloc k hv hlt).symm)
  refine ⟨fun j hj => ?_, h.ge, h.gs, fun a b k ha hb h1 h2 => ?_⟩
  · by_cases e : j = i
    · subst e; rw [up_same, up_same]; exact hl'
    · rw [up_other _ _ _ e, up_other _ _ _ e]
      have ha := h.apart hi hj e
      exact (h.lru j hj).keep hk ha.1 (fun k hk' => ha.2 k hk')
  · by_cases ea : a = i
    · by_cases eb : b = i
      · rw [ea, eb]
      · subst ea
        rw [up_same] at h1
        rw [up_other _ _ _ eb] at h2
        exact absurd h1 (hnew b k hb eb h2)
    · by_cases eb : b = i
      · subst eb
        rw [up_same] at h2
        rw [up_other _ _ _ ea] at h1
        exact absurd h2 (hnew a k ha ea h1)
      · rw [up_other _ _ _ ea] at h1
        rw [up_other _ _ _ eb] at h2
        exact h.vs a b k ha hb h1 h2
theorem Fam.new (h : Fam w base m R G V Ls) {r : Int} {g : Nat} (hg : g = w.heap.size) (hbase : base ≤ w.heap.size) (hl : LruS w' g g r (.slice none 0 0) []) (hb : Below w.heap.size w w') :
    Fam w' base (m + 1) (up R m r) (up G m g) (up V m (.slice none 0 0)) (up Ls m []) := by
  have hlt : ∀ j, j < m → G j < w.heap.size := fun j hj => (h.lru j hj).blk.lt
  refine ⟨fun j hj => ?_, fun j hj => ?_, fun a b ha hb e => ?_, fun a b k ha hb h1 h2 => ?_⟩
  · by_cases e : j = m
    · subst e; rw [up_same, up_same, up_same, up_same]; exact ⟨hl.blk, row_mono hl.row (by omega)⟩
    · rw [up_other _ _ _ e, up_other _ _ _ e, up_other _ _ _ e, up_other _ _ _ e]
      exact (h.lru j (by omega)).below hb
  · by_cases e : j = m
    · subst e; rw [up_same]; omega
    · rw [up_other _ _ _ e]; exact h.ge j (by omega)
  · by_cases ea : a = m
    · by_cases eb : b = m
      · omega
      · rw [ea, up_same, up_other _ _ _ eb] at e
        have := hlt b (by omega)
        omega
    · by_cases eb : b = m
      · rw [eb, up_same, up_other _ _ _ ea] at e
        have := hlt a (by omega)
        omega
      · rw [up_other _ _ _ ea, up_other _ _ _ eb] at e
        exact h.gs a b (by omega) (by omega) e
  · by_cases ea : a = m
    · rw [ea, up_same] at h1; simp [Value.ownBlock] at h1
    · by_cases eb : b = m
      · rw [eb, up_same] at h2; simp [Value.ownBlock] at h2
      · rw [up_other _ _ _ ea] at h1
        rw [up_other _ _ _ eb] at h2
        exact h.vs a b k (by omega) (by omega) h1 h2
end

/-- Shards: the block, and the row of pointers to caches off .. off + n - 1 of a family. -/
structure Shb (w : World) (base g n : Nat) (v : Value) (G : Nat → Nat) : Prop where
  blk : Blk w g 129 #[v]
  row : w.ownsRow base 33 1 v n ((List.range n).map fun i => .pointer (some ⟨G i, 0, none⟩))
section
variable {w w' : World} {base g n : Nat} {v : Value} {G : Nat → Nat}
theorem Shb.keep {S : Nat → Prop} (h : Shb w base g n v G) (hk : Keep S w w') (h1 : ¬ S g) (h2 : ∀ k, v.ownBlock = some k → ¬ S k) : Shb w' base g n v G := ⟨h.blk.keep hk h1, row_keep h.row hk h2⟩
theorem Shb.below (h : Shb w base g n v G) (hb : Below w.heap.size w w') : Shb w' base g n v G := h.keep (S := fun _ => False) (Keep.of_below hb) (by simp) (by simp)
/-- What a cache's call leaves of the shards. -/
theorem Shb.by_cache (h : Shb w base g n v G) {b2 g2 : Nat} {r2 : Int} {v2 : Value} {l2 : List (ByteArray × Int)} (hl : LruS w b2 g2 r2 v2 l2) (hk : Keep (fun k => k = g2 ∨ some k = v2.ownBlock) w w') : Shb w' base g n v G := by
  refine h.keep hk ?_ ?_
  · rintro (e | e)
    · exact h.blk.ne_ hl.blk (by decide) e
    · exact row_ne hl.row h.blk (by decide) e
  · rintro k hk' (e | e)
    · exact row_ne h.row hl.blk (by decide) (by rw [hk', e])
    · exact row_ne_row h.row hl.row (by decide) k hk' e
theorem Shb.shape1 (h : Shb w base g n v G) (hn : 0 < n) : ∃ r c, v = .slice (some ⟨r, 0, none⟩) n c ∧ r < w.heap.size ∧ n ≤ c := by
  rcases h.row.2 with ⟨rfl, h0⟩ | ⟨r, cap, cur, rfl, hb, hh, hc, _⟩
  · omega
  · exact ⟨r, cap, rfl, (Array.getElem?_eq_some_iff.1 hh).1, hc⟩
theorem Shb.cell {r c : Nat} (h : Shb w base g n (.slice (some ⟨r, 0, none⟩) n c) G) (i : Nat) (hi : i < n) : w.cell? ⟨r, i, none⟩ = some (.pointer (some ⟨G i, 0, none⟩)) := by
  rw [h.row.cellAt _ (by omega)]
  simp [hi]
end

theorem many_calls (base g n : Nat) (v : Value) (G : Nat → Nat) (w : World) (h : Shb w base g n v G) : Calls Try.prog 25 #[.pointer (some ⟨g, 0, none⟩)] w (Same (.int .i64 n) w) := by
  have c0 := h.blk.cell 0
  have lt := h.blk.lt
  obtain ⟨A, c, rfl⟩ := own_slice h.row
  simp at c0
  clear h
  go_enter Try.func25, Try.ntmps25
  go_wp2
  go_ret
  exact ⟨rfl, rfl⟩

/-- A call that only reads, but may draw. -/
def Drew (v : Value) (w : World) (e : Ending) (w' : World) : Prop := e = .returned v ∧ ∃ n, w' = w.drewN n
theorem Same.drew {v : Value} {w : World} {e : Ending} {w' : World} (h : Fnv.Same v w e w') : Drew v w e w' := by
  obtain ⟨rfl, rfl⟩ := h
  exact ⟨rfl, 0, rfl⟩

set_option maxHeartbeats 1000000 in
theorem of_calls (base g n : Nat) (v : Value) (G : Nat → Nat) (k : ByteArray) (w : World) (h : Shb w base g n v G) (hn0 : 0 < n) (hn1 : n ≤ 256) (hk : k.size ≤ 9000000000000000000) :
    Calls Try.prog 37 #[.pointer (some ⟨g, 0, none⟩), .string k] w (Drew (.int .i64 ((Fnv.sum (Fnv.bsOf k) % n : Nat) : Int)) w) := by
  have c0 := h.blk.cell 0
  have lt := h.blk.lt
  obtain ⟨A, c, rfl⟩ := own_slice h.row
  simp at c0
  clear h
  have hs := Fnv.sum_lt (Fnv.bsOf k)
  have HS : ∀ W : World, Calls Try.prog 36 #[.string k] W (fun e w' => e = .returned (.int .u32 (Fnv.sum (Fnv.bsOf k))) ∧ ∃ m, w' = W.drewN m) := fun W => (Fnv.sum_calls k W hk).mono (fun _ _ h => Same.drew h)
  generalize Fnv.sum (Fnv.bsOf k) = s at *
  go_enter Try.func37, Try.ntmps37
  go_wp2_with fail
  go_quiet (first | (go_at_call 36; refine Calls.quiet_of (HS _)))
  have hlt : s % n < n := Nat.mod_lt _ hn0
  have e : wrap64 ((s : Int) % (n : Int)) = ((s % n : Nat) : Int) := by
    rw [← Int.natCast_emod]
    generalize s % n = q at *
    unfold wrap64
    omega
  go_wp2
  go_ret
  exact ⟨by rw [← e]; rfl, nq, rfl⟩

theorem PutS.undrew {base g : Nat} {r : Int} {v : Value} {l : List (ByteArray × Int)} {res : Value} {w : World} {n : Nat} {e : Ending} {w' : World} (h : PutS base g r v l res (w.drewN n) e w') : PutS base g r v l res w e w' := by
  obtain ⟨he, v', hl, hk, ho⟩ := h
  exact ⟨he, v', hl, ⟨hk.os, hk.tape, hk.output, hk.size, hk.block⟩, ho⟩
theorem GetS.undrew {base g : Nat} {r : Int} {v : Value} {l : List (ByteArray × Int)} {res : Value} {w : World} {n : Nat} {e : Ending} {w' : World} (h : GetS base g r v l res (w.drewN n) e w') : GetS base g r v l res w e w' := by
  obtain ⟨he, hl, hk⟩ := h
  exact ⟨he, hl, ⟨hk.os, hk.tape, hk.output, hk.size, hk.block⟩⟩

/-- What a Put, a Get of a cache comes to, wherever the cache lies. -/
def PutIs (r : Int) (l : List (ByteArray × Int)) (k : ByteArray) (x : Int) (l' : List (ByteArray × Int)) (gone : ByteArray) (is : Bool) : Prop :=
  ∀ w base g v, LruS w base g r v l → base ≤ g → Calls Try.prog 21 #[.pointer (some ⟨g, 0, none⟩), .string k, .int .i64 x] w (PutS base g r v l' (.tuple #[.string gone, .bool is]) w)
def GetIs (r : Int) (l : List (ByteArray × Int)) (k : ByteArray) (l' : List (ByteArray × Int)) (x : Int) (ok : Bool) : Prop :=
  ∀ w base g v, LruS w base g r v l → Calls Try.prog 23 #[.pointer (some ⟨g, 0, none⟩), .string k] w (GetS base g r v l' (.tuple #[.int .i64 x, .bool ok]) w)

set_option maxRecDepth 100000 in
set_option maxHeartbeats 2000000 in
theorem sput_calls (b2 g n : Nat) (v : Value) (Gs : Nat → Nat) (k : ByteArray) (x : Int) (w : World) (h : Shb w b2 g n v Gs) (hn0 : 0 < n) (hn1 : n ≤ 256) (hk : k.size ≤ 9000000000000000000)
    (base gi : Nat) (r : Int) (vi : Value) (l l' : List (ByteArray × Int)) (gone : ByteArray) (is : Bool) (hl : LruS w base gi r vi l) (hb : base ≤ gi) (hgi : Gs (Fnv.sum (Fnv.bsOf k) % n) = gi) (hP : PutIs r l k x l' gone is) :
    Calls Try.prog 22 #[.pointer (some ⟨g, 0, none⟩), .string k, .int .i64 x] w (PutS base gi r vi l' (.tuple #[.string gone, .bool is]) w) := by
  obtain ⟨rr, c, rfl, hrr, hc⟩ := h.shape1 hn0
  have H := Av.mk h
  have HL := Av.mk hl
  have c0 := h.blk.cell 0
  have lt := h.blk.lt
  simp at c0
  have hj : Fnv.sum (Fnv.bsOf k) % n < n := Nat.mod_lt _ hn0
  have cj := h.cell _ hj
  rw [hgi] at cj
  have HO := fun W (hW : Shb W b2 g n (.slice (some ⟨rr, 0, none⟩) n c) Gs) => of_calls b2 g n _ Gs k W hW hn0 hn1 hk
  have HO := Av.mk HO
  have HP := Av.mk hP
  clear hP h hl hgi
  generalize Fnv.sum (Fnv.bsOf k) % n = j at *
  go_enter Try.func22, Try.ntmps22
  go_wp2_with fail
  go_region_with (first | (go_at_call 37; refine (HO.out w.drew ⟨H.out.blk, H.out.row⟩).mono ?_; rintro e _ ⟨rfl, nd, rfl⟩) | (go_at_call 21; refine (HP.out (w.drewN (1 + nd)) base gi vi ⟨HL.out.blk, HL.out.row⟩ hb).mono ?_; rintro e w2 ⟨rfl, v2, hl2, hk2, ho2⟩))
  all_goals
    have HQ := Av.mk (PutS.undrew (show PutS base gi r vi l' (.tuple #[.string gone, .bool is]) (w.drewN (1 + nd)) (.returned (.tuple #[.string gone, .bool is])) w2 from ⟨rfl, v2, hl2, hk2, ho2⟩))
    clear hl2 hk2 ho2
    go_wp2
    go_ret2
    exact HQ.out

set_option maxRecDepth 100000 in
set_option maxHeartbeats 2000000 in
theorem sget_calls (b2 g n : Nat) (v : Value) (Gs : Nat → Nat) (k : ByteArray) (w : World) (h : Shb w b2 g n v Gs) (hn0 : 0 < n) (hn1 : n ≤ 256) (hk : k.size ≤ 9000000000000000000)
    (base gi : Nat) (r : Int) (vi : Value) (l l' : List (ByteArray × Int)) (x : Int) (ok : Bool) (hl : LruS w base gi r vi l) (hgi : Gs (Fnv.sum (Fnv.bsOf k) % n) = gi) (hP : GetIs r l k l' x ok) :
    Calls Try.prog 24 #[.pointer (some ⟨g, 0, none⟩), .string k] w (GetS base gi r vi l' (.tuple #[.int .i64 x, .bool ok]) w) := by
  obtain ⟨rr, c, rfl, hrr, hc⟩ := h.shape1 hn0
  have H := Av.mk h
  have HL := Av.mk hl
  have c0 := h.blk.cell 0
  have lt := h.blk.lt
  simp at c0
  have hj : Fnv.sum (Fnv.bsOf k) % n < n := Nat.mod_lt _ hn0
  have cj := h.cell _ hj
  rw [hgi] at cj
  have HO := fun W (hW : Shb W b2 g n (.slice (some ⟨rr, 0, none⟩) n c) Gs) => of_calls b2 g n _ Gs k W hW hn0 hn1 hk
  have HO := Av.mk HO
  have HP := Av.mk hP
  clear hP h hl hgi
  generalize Fnv.sum (Fnv.bsOf k) % n = j at *
  go_enter Try.func24, Try.ntmps24
  go_wp2_with fail
  go_region_with (first | (go_at_call 37; refine (HO.out w.drew ⟨H.out.blk, H.out.row⟩).mono ?_; rintro e _ ⟨rfl, nd, rfl⟩) | (go_at_call 23; refine (HP.out (w.drewN (1 + nd)) base gi vi ⟨HL.out.blk, HL.out.row⟩).mono ?_; rintro e w2 ⟨rfl, hl2, hk2⟩))
  all_goals
    have HQ := Av.mk (GetS.undrew (show GetS base gi r vi l' (.tuple #[.int .i64 x, .bool ok]) (w.drewN (1 + nd)) (.returned (.tuple #[.int .i64 x, .bool ok])) w2 from ⟨rfl, hl2, hk2⟩))
    clear hl2 hk2
    go_wp2
    go_ret2
    exact HQ.out
end Go.Proofs.Ytiopmehaghcpfaa
