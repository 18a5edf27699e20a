/- Families of caches of lists, and shards. Printed by gen_famx.py. -/
import Derived.Test.YtiopmehaghcpfaaLruL
import Derived.Test.YtiopmehaghcpfaaSdP
namespace Go.Proofs.Ytiopmehaghcpfaa.L
open Go.Proofs.Ytiopmehaghcpfaa
open Go.RowKit Go.Maps
set_option linter.unusedSimpArgs false
set_option linter.unusedVariables false
attribute [local go_sem ↓] run_max_int run_min_int

structure Fam (w : World) (base m : Nat) (R : Nat → Int) (G : Nat → Nat) (V : Nat → Value) (Ls : Nat → List (ByteArray × Pay)) : Prop where
  lru : ∀ i, i < m → LruS w base (G i) (R i) (V i) (Ls i)
  ge : ∀ i, i < m → base ≤ G i
  gs : ∀ i j, i < m → j < m → G i = G j → i = j
  vs : ∀ i j k, i < m → j < m → (V i).ownBlock = some k → (V j).ownBlock = some k → i = j
section
variable {w w' : World} {base m : Nat} {R : Nat → Int} {G : Nat → Nat} {V : Nat → Value} {Ls : Nat → List (ByteArray × Pay)}
theorem Fam.keep {S : Nat → Prop} (h : Fam w base m R G V Ls) (hk : Keep S w w') (h1 : ∀ i, i < m → ¬ S (G i)) (h2 : ∀ i k, i < m → (V i).ownBlock = some k → ¬ S k) : Fam w' base m R G V Ls :=
  ⟨fun i hi => (h.lru i hi).keep hk (h1 i hi) (fun k e => h2 i k hi e), h.ge, h.gs, h.vs⟩
theorem Fam.below (h : Fam w base m R G V Ls) (hb : Below w.heap.size w w') : Fam w' base m R G V Ls := h.keep (S := fun _ => False) (Keep.of_below hb) (by simp) (by simp)
theorem Fam.nil (w : World) (base : Nat) (R : Nat → Int) (G : Nat → Nat) (V : Nat → Value) (Ls : Nat → List (ByteArray × Pay)) : Fam w base 0 R G V Ls :=
  ⟨fun i h => by omega, fun i h => by omega, fun i j h => by omega, fun i j k h => by omega⟩
/-- A cache's blocks are no other cache's. -/
theorem Fam.apart (h : Fam w base m R G V Ls) {i j : Nat} (hi : i < m) (hj : j < m) (hne : j ≠ i) : ¬ (G j = G i ∨ some (G j) = (V i).ownBlock) ∧ ∀ k, (V j).ownBlock = some k → ¬ (k = G i ∨ some k = (V i).ownBlock) := by
  refine ⟨?_, ?_⟩
  · rintro (e | e)
    · exact hne (h.gs j i hj hi e)
    · exact row_ne (h.lru i hi).row (h.lru j hj).blk (by decide) e
  · rintro k hk (e | e)
    · exact row_ne (h.lru j hj).row (h.lru i hi).blk (by decide) (by rw [hk, e])
    · exact hne (h.vs j i k hj hi hk e.symm)
theorem Fam.got (h : Fam w base m R G V Ls) {i : Nat} (hi : i < m) {l' : List (ByteArray × Pay)} (hl' : LruS w' base (G i) (R i) (V i) l') (hk : Keep (fun k => some k = (V i).ownBlock) w w') : Fam w' base m R G V (up Ls i l') := by
  refine ⟨fun j hj => ?_, h.ge, h.gs, h.vs⟩
  by_cases e : j = i
  · subst e; rw [up_same]; exact hl'
  · rw [up_other _ _ _ e]
    have ha := h.apart hi hj e
    exact (h.lru j hj).keep hk (fun e' => ha.1 (.inr e')) (fun k hk' e' => ha.2 k hk' (.inr e'))
theorem Fam.putt (h : Fam w base m R G V Ls) {i : Nat} (hi : i < m) {l' : List (ByteArray × Pay)} {v' : Value} (hl' : LruS w' base (G i) (R i) v' l') (hk : Keep (fun k => k = G i ∨ some k = (V i).ownBlock) w w') (hloc : Loc (V i) v' w) : Fam w' base m R G (up V i v') (up Ls i l') := by
  have hnew : ∀ j k, j < m → j ≠ i → (V j).ownBlock = some k → ¬ v'.ownBlock = some k := by
    intro j k hj hne hjk hv
    have hlt := row_lt (h.lru j hj).row k hjk.symm
    exact hne (h.vs j i k hj hi hjk (hloc k hv hlt).symm)
  refine ⟨fun j hj => ?_, h.ge, h.gs, fun a b k ha hb h1 h2 => ?_⟩
  · by_cases e : j = i
    · subst e; rw [up_same, up_same]; exact hl'
    · rw [up_other _ _ _ e, up_other _ _ _ e]
      have ha := h.apart hi hj e
      exact (h.lru j hj).keep hk ha.1 (fun k hk' => ha.2 k hk')
  · by_cases ea : a = i
    · by_cases eb : b = i
      · rw [ea, eb]
      · subst ea
        rw [up_same] at h1
        rw [up_other _ _ _ eb] at h2
        exact absurd h1 (hnew b k hb eb h2)
    · by_cases eb : b = i
      · subst eb
        rw [up_same] at h2
        rw [up_other _ _ _ ea] at h1
        exact absurd h2 (hnew a k ha ea h1)
      · rw [up_other _ _ _ ea] at h1
        rw [up_other _ _ _ eb] at h2
        exact h.vs a b k ha hb h1 h2
theorem Fam.new (h : Fam w base m R G V Ls) {r : Int} {g : Nat} (hg : g = w.heap.size) (hbase : base ≤ w.heap.size) (hl : LruS w' g g r (.slice none 0 0) []) (hb : Below w.heap.size w w') :
    Fam w' base (m + 1) (up R m r) (up G m g) (up V m (.slice none 0 0)) (up Ls m []) := by
  have hlt : ∀ j, j < m → G j < w.heap.size := fun j hj => (h.lru j hj).blk.lt
  refine ⟨fun j hj => ?_, fun j hj => ?_, fun a b ha hb e => ?_, fun a b k ha hb h1 h2 => ?_⟩
  · by_cases e : j = m
    · subst e; rw [up_same, up_same, up_same, up_same]; exact ⟨hl.blk, row_mono hl.row (by omega)⟩
    · rw [up_other _ _ _ e, up_other _ _ _ e, up_other _ _ _ e, up_other _ _ _ e]
      exact (h.lru j (by omega)).below hb
  · by_cases e : j = m
    · subst e; rw [up_same]; omega
    · rw [up_other _ _ _ e]; exact h.ge j (by omega)
  · by_cases ea : a = m
    · by_cases eb : b = m
      · omega
      · rw [ea, up_same, up_other _ _ _ eb] at e
        have := hlt b (by omega)
        omega
    · by_cases eb : b = m
      · rw [eb, up_same, up_other _ _ _ ea] at e
        have := hlt a (by omega)
        omega
      · rw [up_other _ _ _ ea, up_other _ _ _ eb] at e
        exact h.gs a b (by omega) (by omega) e
  · by_cases ea : a = m
    · rw [ea, up_same] at h1; simp [Value.ownBlock] at h1
    · by_cases eb : b = m
      · rw [eb, up_same] at h2; simp [Value.ownBlock] at h2
      · rw [up_other _ _ _ ea] at h1
        rw [up_other _ _ _ eb] at h2
        exact h.vs a b k (by omega) (by omega) h1 h2
end

/-- Shards: the block, and the row of pointers to caches off .. off + n - 1 of a family. -/
structure Shb (w : World) (base g n : Nat) (v : Value) (G : Nat → Nat) : Prop where
  blk : Blk w g 158 #[v]
  row : w.ownsRow base 159 1 v n ((List.range n).map fun i => .pointer (some ⟨G i, 0, none⟩))
section
variable {w w' : World} {base g n : Nat} {v : Value} {G : Nat → Nat}
theorem Shb.keep {S : Nat → Prop} (h : Shb w base g n v G) (hk : Keep S w w') (h1 : ¬ S g) (h2 : ∀ k, v.ownBlock = some k → ¬ S k) : Shb w' base g n v G := ⟨h.blk.keep hk h1, row_keep h.row hk h2⟩
theorem Shb.below (h : Shb w base g n v G) (hb : Below w.heap.size w w') : Shb w' base g n v G := h.keep (S := fun _ => False) (Keep.of_below hb) (by simp) (by simp)
/-- What a cache's call leaves of the shards. -/
theorem Shb.by_cache (h : Shb w base g n v G) {b2 g2 : Nat} {r2 : Int} {v2 : Value} {l2 : List (ByteArray × Pay)} (hl : LruS w b2 g2 r2 v2 l2) (hk : Keep (fun k => k = g2 ∨ some k = v2.ownBlock) w w') : Shb w' base g n v G := by
  refine h.keep hk ?_ ?_
  · rintro (e | e)
    · exact h.blk.ne_ hl.blk (by decide) e
    · exact row_ne hl.row h.blk (by decide) e
  · rintro k hk' (e | e)
    · exact row_ne h.row hl.blk (by decide) (by rw [hk', e])
    · exact row_ne_row h.row hl.row (by decide) k hk' e
theorem Shb.shape1 (h : Shb w base g n v G) (hn : 0 < n) : ∃ r c, v = .slice (some ⟨r, 0, none⟩) n c ∧ r < w.heap.size ∧ n ≤ c := by
  rcases h.row.2 with ⟨rfl, h0⟩ | ⟨r, cap, cur, rfl, hb, hh, hc, _⟩
  · omega
  · exact ⟨r, cap, rfl, (Array.getElem?_eq_some_iff.1 hh).1, hc⟩
theorem Shb.cell {r c : Nat} (h : Shb w base g n (.slice (some ⟨r, 0, none⟩) n c) G) (i : Nat) (hi : i < n) : w.cell? ⟨r, i, none⟩ = some (.pointer (some ⟨G i, 0, none⟩)) := by
  rw [h.row.cellAt _ (by omega)]
  simp [hi]
end

theorem many_calls (base g n : Nat) (v : Value) (G : Nat → Nat) (w : World) (h : Shb w base g n v G) : Calls Try.prog 85 #[.pointer (some ⟨g, 0, none⟩)] w (Same (.int .i64 n) w) := by
  have c0 := h.blk.cell 0
  have lt := h.blk.lt
  obtain ⟨A, c, rfl⟩ := own_slice h.row
  simp at c0
  clear h
  go_enter Try.func85, Try.ntmps85
  go_wp2
  go_ret
  exact ⟨rfl, rfl⟩

set_option maxHeartbeats 4000000 in
theorem of_calls (base g n : Nat) (v : Value) (G : Nat → Nat) (k : ByteArray) (w : World) (h : Shb w base g n v G) (hn0 : 0 < n) (hn1 : n ≤ 256) (hk : k.size ≤ 9000000000000000000) :
    Calls Try.prog 82 #[.pointer (some ⟨g, 0, none⟩), .string k] w (Drew (.int .i64 ((Fnv.sum (Fnv.bsOf k) % n : Nat) : Int)) w) := by
  have c0 := h.blk.cell 0
  have lt := h.blk.lt
  obtain ⟨A, c, rfl⟩ := own_slice h.row
  simp at c0
  clear h
  have hs := Fnv.sum_lt (Fnv.bsOf k)
  have HS : ∀ W : World, Calls Try.prog 36 #[.string k] W (fun e w' => e = .returned (.int .u32 (Fnv.sum (Fnv.bsOf k))) ∧ ∃ m, w' = W.drewN m) := fun W => (Fnv.sum_calls k W hk).mono (fun _ _ h => Same.drew h)
  generalize Fnv.sum (Fnv.bsOf k) = s at *
  go_enter Try.func82, Try.ntmps82
  go_wp2_with fail
  go_quiet (first | (go_at_call 36; refine Calls.quiet_of (HS _)))
  have hlt : s % n < n := Nat.mod_lt _ hn0
  have e : wrap64 ((s : Int) % (n : Int)) = ((s % n : Nat) : Int) := by
    rw [← Int.natCast_emod]
    generalize s % n = q at *
    unfold wrap64
    omega
  go_wp2
  go_ret
  exact ⟨by rw [← e]; rfl, nq, rfl⟩

theorem PutS.undrew {base g : Nat} {r : Int} {v : Value} {l : List (ByteArray × Pay)} {res : Value} {w : World} {n : Nat} {e : Ending} {w' : World} (h : PutS base g r v l res (w.drewN n) e w') : PutS base g r v l res w e w' := by
  obtain ⟨he, v', hl, hk, ho⟩ := h
  exact ⟨he, v', hl, ⟨hk.os, hk.tape, hk.output, hk.size, hk.block⟩, ho⟩
theorem GetS.undrew {base g : Nat} {r : Int} {v : Value} {l : List (ByteArray × Pay)} {res : Value} {w : World} {n : Nat} {e : Ending} {w' : World} (h : GetS base g r v l res (w.drewN n) e w') : GetS base g r v l res w e w' := by
  obtain ⟨he, hl, hk⟩ := h
  exact ⟨he, hl, ⟨hk.os, hk.tape, hk.output, hk.size, hk.block⟩⟩

/-- What a Put, a Get of a cache comes to, wherever the cache lies. -/
def PutIs (r : Int) (l : List (ByteArray × Pay)) (k : ByteArray) (x : Pay) (l' : List (ByteArray × Pay)) (gone : ByteArray) (is : Bool) : Prop :=
  ∀ w base g v, LruS w base g r v l → base ≤ g → Calls Try.prog 93 #[.pointer (some ⟨g, 0, none⟩), .string k, .agg #[.int .i64 x.ep, .slice x.A x.n x.c]] w (PutS base g r v l' (.tuple #[.string gone, .bool is]) w)
def GetIs (r : Int) (l : List (ByteArray × Pay)) (k : ByteArray) (l' : List (ByteArray × Pay)) (x : Pay) (ok : Bool) : Prop :=
  ∀ w base g v, LruS w base g r v l → Calls Try.prog 92 #[.pointer (some ⟨g, 0, none⟩), .string k] w (GetS base g r v l' (.tuple #[.agg #[.int .i64 x.ep, .slice x.A x.n x.c], .bool ok]) w)

theorem PutS.pre {base g : Nat} {r : Int} {v : Value} {l : List (ByteArray × Pay)} {res : Value} {w w0 : World} {e : Ending} {w' : World} (h : PutS base g r v l res w0 e w') (hk : Keep (fun k => k = g ∨ some k = v.ownBlock) w w0) : PutS base g r v l res w e w' := by
  obtain ⟨he, v', hl, hk2, ho⟩ := h
  exact ⟨he, v', hl, hk.trans hk2, fun k h1 h2 => ho k h1 (Nat.lt_of_lt_of_le h2 hk.size)⟩

set_option maxRecDepth 100000 in
set_option maxHeartbeats 4000000 in
theorem sput_calls (b2 g n : Nat) (v : Value) (Gs : Nat → Nat) (k : ByteArray) (x : Pay) (w : World) (h : Shb w b2 g n v Gs) (hn0 : 0 < n) (hn1 : n ≤ 256) (hk : k.size ≤ 9000000000000000000)
    (base gi : Nat) (r : Int) (vi : Value) (l l' : List (ByteArray × Pay)) (gone : ByteArray) (is : Bool) (hl : LruS w base gi r vi l) (hb : base ≤ gi) (hgi : Gs (Fnv.sum (Fnv.bsOf k) % n) = gi) (hP : PutIs r l k x l' gone is) :
    Calls Try.prog 79 #[.pointer (some ⟨g, 0, none⟩), .string k, .agg #[.int .i64 x.ep, .slice x.A x.n x.c]] w (PutS base gi r vi l' (.tuple #[.string gone, .bool is]) w) := by
  obtain ⟨rr, c, rfl, hrr, hc⟩ := h.shape1 hn0
  have hK := Av.mk (Keep.alloc (Keep.refl (fun k => k = gi ∨ some k = vi.ownBlock) w) (.cells #[.int .i64 x.ep, .slice x.A x.n x.c] 141))
  have H := Av.mk (h.below (below_alloc (Below.refl _ w) (.cells #[.int .i64 x.ep, .slice x.A x.n x.c] 141)))
  have HL := Av.mk (hl.below (below_alloc (Below.refl _ w) (.cells #[.int .i64 x.ep, .slice x.A x.n x.c] 141)))
  have X := Av.mk (Blk.new w 141 #[.int .i64 x.ep, .slice x.A x.n x.c])
  clear hrr
  have hj : Fnv.sum (Fnv.bsOf k) % n < n := Nat.mod_lt _ hn0
  have HO := fun W (hW : Shb W b2 g n (.slice (some ⟨rr, 0, none⟩) n c) Gs) => of_calls b2 g n _ Gs k W hW hn0 hn1 hk
  have HO := Av.mk HO
  have HP := Av.mk hP
  have HGI := Av.mk hgi
  clear hP h hl hgi
  generalize Fnv.sum (Fnv.bsOf k) % n = j at *
  go_enter Try.func79, Try.ntmps79
  go_wp2_with fail
  generalize w.alloc (.cells #[.int .i64 x.ep, .slice x.A x.n x.c] 141) = w0 at *
  have c0 := H.out.blk.cell 0
  have lt := H.out.blk.lt
  simp at c0
  have cj := H.out.cell _ hj
  rw [HGI.out] at cj
  have y0 := X.out.cell 0
  have y1 := X.out.cell 1
  have lx := X.out.lt
  simp at y0 y1
  go_region_with (first | (go_at_call 82; refine (HO.out w0.drew ⟨H.out.blk, H.out.row⟩).mono ?_; rintro e _ ⟨rfl, nd, rfl⟩) | (go_at_call 93; refine (HP.out (w0.drewN (1 + nd)) base gi vi ⟨HL.out.blk, HL.out.row⟩ hb).mono ?_; rintro e w2 ⟨rfl, v2, hl2, hk2, ho2⟩))
  all_goals
    have HQ := Av.mk ((PutS.undrew (show PutS base gi r vi l' (.tuple #[.string gone, .bool is]) (w0.drewN (1 + nd)) (.returned (.tuple #[.string gone, .bool is])) w2 from ⟨rfl, v2, hl2, hk2, ho2⟩)).pre hK.out)
    clear hl2 hk2 ho2
    go_wp2
    go_ret2
    exact HQ.out

set_option maxRecDepth 100000 in
set_option maxHeartbeats 4000000 in
theorem sget_calls (b2 g n : Nat) (v : Value) (Gs : Nat → Nat) (k : ByteArray) (w : World) (h : Shb w b2 g n v Gs) (hn0 : 0 < n) (hn1 : n ≤ 256) (hk : k.size ≤ 9000000000000000000)
    (base gi : Nat) (r : Int) (vi : Value) (l l' : List (ByteArray × Pay)) (x : Pay) (ok : Bool) (hl : LruS w base gi r vi l) (hgi : Gs (Fnv.sum (Fnv.bsOf k) % n) = gi) (hP : GetIs r l k l' x ok) :
    Calls Try.prog 78 #[.pointer (some ⟨g, 0, none⟩), .string k] w (GetS base gi r vi l' (.tuple #[.agg #[.int .i64 x.ep, .slice x.A x.n x.c], .bool ok]) w) := by
  obtain ⟨rr, c, rfl, hrr, hc⟩ := h.shape1 hn0
  have hK := Av.mk (Keep.alloc (Keep.refl (fun k => some k = vi.ownBlock) w) (.cells #[.int .i64 0, .slice none 0 0] 141))
  have H := Av.mk (h.below (below_alloc (Below.refl _ w) (.cells #[.int .i64 0, .slice none 0 0] 141)))
  have HL := Av.mk (hl.below (below_alloc (Below.refl _ w) (.cells #[.int .i64 0, .slice none 0 0] 141)))
  have X := Av.mk (Blk.new w 141 #[.int .i64 0, .slice none 0 0])
  have hvx : ∀ k, vi.ownBlock = some k → k ≠ w.heap.size := fun k hk => by have := row_lt hl.row k hk.symm; omega
  have hgx : gi ≠ w.heap.size := Nat.ne_of_lt hl.blk.lt
  have HV := Av.mk hvx
  clear hrr hvx
  have hj : Fnv.sum (Fnv.bsOf k) % n < n := Nat.mod_lt _ hn0
  have HO := fun W (hW : Shb W b2 g n (.slice (some ⟨rr, 0, none⟩) n c) Gs) => of_calls b2 g n _ Gs k W hW hn0 hn1 hk
  have HO := Av.mk HO
  have HP := Av.mk hP
  have HGI := Av.mk hgi
  clear hP h hl hgi
  generalize Fnv.sum (Fnv.bsOf k) % n = j at *
  go_enter Try.func78, Try.ntmps78
  go_wp2_with fail
  generalize w.alloc (.cells #[.int .i64 0, .slice none 0 0] 141) = w0 at *
  have c0 := H.out.blk.cell 0
  have lt := H.out.blk.lt
  simp at c0
  have cj := H.out.cell _ hj
  rw [HGI.out] at cj
  have lx0 := X.out.lt
  go_region_with (first | (go_at_call 82; refine (HO.out w0.drew ⟨H.out.blk, H.out.row⟩).mono ?_; rintro e _ ⟨rfl, nd, rfl⟩) | (go_at_call 92; refine (HP.out (w0.drewN (1 + nd)) base gi vi ⟨HL.out.blk, HL.out.row⟩).mono ?_; rintro e w2 ⟨rfl, hl2, hk2⟩; have X2 := Av.mk ((X.out.drewN (1 + nd)).keep hk2 (fun e' => HV.out _ e'.symm rfl)); have z0 := X2.out.cell 0; have f0 := X2.out.frozen 0; have z1 := X2.out.cell 1; have f1 := X2.out.frozen 1; have lx := X2.out.lt; simp at z0 z1; have HL2 := Av.mk hl2; have HK2 := Av.mk hk2; clear hl2 hk2))
  all_goals
    go_wp2
    refine bodyPost_ret (v := .tuple #[.agg #[.int .i64 x.ep, .slice x.A x.n x.c], .bool ok]) (by simp [results, Try.results78, go_sem, z0, z1, lx]) rfl ?_
    refine GetS.undrew (n := 1 + nd) ⟨rfl, HL2.out.keep (S := fun k => k = w.heap.size) ?_ hgx HV.out, ?_⟩
    · repeat (with_reducible first | apply Keep.alloc | refine kset2 ?_)
      exact Keep.refl _ _
    · refine (show Keep (fun k => some k = vi.ownBlock) (w.drewN (1 + nd)) _ from ?_)
      repeat (with_reducible first | apply Keep.alloc | refine kset ?_ (Nat.le_refl _))
      exact ⟨(hK.out.drewN (1 + nd)).trans HK2.out |>.os, (hK.out.drewN (1 + nd)).trans HK2.out |>.tape, (hK.out.drewN (1 + nd)).trans HK2.out |>.output, (hK.out.drewN (1 + nd)).trans HK2.out |>.size, (hK.out.drewN (1 + nd)).trans HK2.out |>.block⟩

/-- A cache more in the shards. -/
theorem shb_grow {wr w2 w4 : World} {b0 g i base m : Nat} {v v4 : Value} {G : Nat → Nat} {R : Nat → Int} {V : Nat → Value} {Ls : Nat → List (ByteArray × Pay)} {r : Int} {o : Obj}
    (hS : Shb wr b0 g i v (fun j => G (m + j))) (hF : Fam wr base (m + i) R G V Ls) (hbase : base ≤ wr.heap.size) (hl2 : LruS w2 wr.heap.size wr.heap.size r (.slice none 0 0) []) (hb2 : Below wr.heap.size wr w2)
    (hg : (w2.alloc o).grownBy w4 v.ownBlock) (ho : w4.ownsRow b0 159 1 v4 (i + 1) ((List.range i).map (fun j => Value.pointer (some ⟨G (m + j), 0, none⟩)) ++ [.pointer (some ⟨wr.heap.size, 0, none⟩)])) :
    Shb (w4.setCell ⟨g, 0, none⟩ v4) b0 g (i + 1) v4 (fun j => up G (m + i) wr.heap.size (m + j)) ∧
    Fam (w4.setCell ⟨g, 0, none⟩ v4) base (m + i + 1) (up R (m + i) r) (up G (m + i) wr.heap.size) (up V (m + i) (.slice none 0 0)) (up Ls (m + i) []) ∧
    Keep (fun k => k = g ∨ some k = v.ownBlock) wr (w4.setCell ⟨g, 0, none⟩ v4) := by
  have hS2 := hS.below hb2
  have hF2 := hF.new rfl hbase hl2 hb2
  have hk1 : Keep (fun k => some k = v.ownBlock) w2 w4 := ((Keep.refl _ w2).alloc o).grown hg (fun k hk _ => hk.symm)
  have hb4 : Blk w4 g 158 #[v] := hS2.blk.keep hk1 (row_ne hS2.row hS2.blk (by decide))
  have hk2 : Keep (fun k => k = g) w4 (w4.setCell ⟨g, 0, none⟩ v4) := (Keep.refl (fun k => k = g) w4).setCell (p := ⟨g, 0, none⟩) (fun _ => rfl) v4
  have hF4 : Fam w4 base (m + i + 1) (up R (m + i) r) (up G (m + i) wr.heap.size) (up V (m + i) (.slice none 0 0)) (up Ls (m + i) []) :=
    hF2.keep hk1 (fun j hj => row_ne hS2.row (hF2.lru j hj).blk (by decide)) (fun j k hj hk => row_ne_row (hF2.lru j hj).row hS2.row (by decide) k hk)
  refine ⟨⟨by simpa using hb4.set_ 0 v4, ?_⟩, hF4.keep hk2 (fun j hj e => hb4.ne_ (hF4.lru j hj).blk (by decide) e.symm) (fun j k hj hk e => row_ne (hF4.lru j hj).row hb4 (by decide) (by rw [hk, e])), ?_⟩
  · have := row_keep ho hk2 (fun k hk e => row_ne ho hb4 (by decide) (by rw [hk, e]))
    rw [← row_up (fun j => G (m + j)) i wr.heap.size] at this
    have e : (fun j => up G (m + i) wr.heap.size (m + j)) = up (fun j => G (m + j)) i wr.heap.size := by
      funext j
      unfold up
      by_cases h : j = i
      · rw [if_pos h, if_pos (by omega)]
      · rw [if_neg h, if_neg (by omega)]
    have e2 : (fun j => Value.pointer (some ⟨up G (m + i) wr.heap.size (m + j), 0, none⟩)) = fun j => Value.pointer (some ⟨up (fun j => G (m + j)) i wr.heap.size j, 0, none⟩) := by
      funext j
      rw [← congrFun e j]
    rw [e2]
    exact this
  · have hk0 : Keep (fun k => k = g ∨ some k = v.ownBlock) wr w2 := Keep.of_below hb2
    exact (hk0.trans (hk1.mono (fun _ _ h => .inr h))).trans (hk2.mono (fun _ _ h => .inl h))

theorem Fam.congr {w : World} {base m : Nat} {R R' : Nat → Int} {G G' : Nat → Nat} {V V' : Nat → Value} {Ls Ls' : Nat → List (ByteArray × Pay)} (h : Fam w base m R G V Ls)
    (e : ∀ i, i < m → R' i = R i ∧ G' i = G i ∧ V' i = V i ∧ Ls' i = Ls i) : Fam w base m R' G' V' Ls' := by
  refine ⟨fun i hi => ?_, fun i hi => ?_, fun i j hi hj h' => ?_, fun i j k hi hj h1 h2 => ?_⟩
  · obtain ⟨e1, e2, e3, e4⟩ := e i hi
    rw [e1, e2, e3, e4]; exact h.lru i hi
  · rw [(e i hi).2.1]; exact h.ge i hi
  · rw [(e i hi).2.1, (e j hj).2.1] at h'; exact h.gs i j hi hj h'
  · rw [(e i hi).2.2.1] at h1; rw [(e j hj).2.2.1] at h2; exact h.vs i j k hi hj h1 h2

theorem info159 : ∃ i, Try.prog.info? 159 = some i ∧ i.zero = some (.pointer none) ∧ i.size = 1 ∧ i.bytes = 8 := by
  have h : (Try.prog.info? 159).map (fun i => (i.zero, i.size, i.bytes)) = some (some (.pointer none), 1, 8) := by kernel_rfl
  obtain ⟨i, hi, e⟩ := Option.map_eq_some_iff.1 h
  simp only [Prod.mk.injEq] at e
  exact ⟨i, hi, e.1, e.2.1, e.2.2⟩

/-- Shards made: caches m .. m + n - 1 of the family. -/
def SNew (base m n : Nat) (R : Nat → Int) (G : Nat → Nat) (V : Nat → Value) (Ls : Nat → List (ByteArray × Pay)) (room : Int) (w : World) (e : Ending) (w' : World) : Prop :=
  ∃ (v : Value) (G' : Nat → Nat) (V' : Nat → Value), e = .returned (.pointer (some ⟨w.heap.size, 0, none⟩)) ∧ Below w.heap.size w w' ∧ Shb w' w.heap.size w.heap.size n v (fun j => G' (m + j)) ∧
    Fam w' base (m + n) (joinF m R (mx room 1)) G' V' (joinF m Ls []) ∧ ∀ j, j < m → G' j = G j ∧ V' j = V j

set_option maxRecDepth 100000 in
set_option maxHeartbeats 4000000 in
theorem snew_calls (many room : Int) (n : Nat) (hn : mn (mx many 1) 256 = (n : Int)) (hn1 : 1 ≤ n) (hn2 : n ≤ 256) (base m : Nat) (R : Nat → Int) (G : Nat → Nat) (V : Nat → Value) (Ls : Nat → List (ByteArray × Pay)) (w : World) (hF : Fam w base m R G V Ls) (hbase : base ≤ w.heap.size) :
    Calls Try.prog 73 #[.int .i64 many, .int .i64 room] w (SNew base m n R G V Ls room w) := by
  obtain ⟨i0, hi0⟩ := info159
  have I := Av.mk hi0
  have HN := Av.mk hn
  have HF0 := Av.mk (show Fam w base m (joinF m R (mx room 1)) G V (joinF m Ls []) from hF.congr (fun i hi => by simp [joinF, hi]))
  clear hi0 hF hn
  go_enter Try.func73, Try.ntmps73
  go_wp2_with fail
  rw [HN.out]
  have hS0 := Av.mk (show Shb (w.alloc (.cells #[.slice none 0 0] 158)) w.heap.size w.heap.size 0 (.slice none 0 0) (fun j => G (m + j)) from ⟨Blk.new w 158 #[.slice none 0 0], rfl, .inl ⟨rfl, rfl⟩⟩)
  have HF := Av.mk (HF0.out.below (below_alloc (Below.refl _ w) (.cells #[.slice none 0 0] 158)))
  have HB := Av.mk (below_alloc (Below.refl _ w) (.cells #[.slice none 0 0] 158))
  clear HF0
  generalize w.alloc (.cells #[.slice none 0 0] 158) = w1 at *
  go_wp2_with fail
  go_loopw [11] (fun i wr => ∃ (k : Nat) (v : Value) (G' : Nat → Nat) (V' : Nat → Value), k ≤ n ∧ i = .int .i64 k ∧ Shb wr w.heap.size w.heap.size k v (fun j => G' (m + j)) ∧ Fam wr base (m + k) (joinF m R (mx room 1)) G' V' (joinF m Ls []) ∧ Below w.heap.size w wr ∧ Av (∀ j, j < m → G' j = G j ∧ V' j = V j)) (fun i _ => n - (intOf i).toNat)
  case atStart => exact ⟨0, _, G, V, Nat.zero_le _, rfl, hS0.out, HF.out, HB.out, ⟨fun _ _ => ⟨rfl, rfl⟩⟩⟩
  case round =>
    obtain ⟨k, v, G', V', hk, rfl, hs, hf, hb, HE⟩ := hrel
    have HS := Av.mk hs
    have HF2 := Av.mk hf
    have HB2 := Av.mk hb
    clear hs hf hb HF HB hS0
    by_cases hlt : k < n
    · have c0 := HS.out.blk.cell 0
      have f0 := HS.out.blk.frozen 0
      have lt0 := HS.out.blk.lt
      simp at c0
      obtain ⟨A, cc, rfl⟩ := own_slice HS.out.row
      go_upto_region 4 with (fail)
      go_region_law (first
        | (go_simp; go_at_call 90; refine (new_S room wr.drew).mono ?_; rintro e w2 ⟨rfl, hl2, hb2⟩; have HL2 := Av.mk hl2; have HBB := Av.mk (show Below wr.heap.size wr w2 from ⟨hb2.os, hb2.tape, hb2.output, hb2.size, hb2.block⟩); have HS2 := Av.mk (HS.out.below HBB.out); have c02 := HS2.out.blk.cell 0; have f02 := HS2.out.blk.frozen 0; have lt02 := HS2.out.blk.lt; simp at c02; clear hl2 hb2)
        | (refine step_append_lies _ rfl (.tmp 17) (.tmp 20) 156 rfl w.heap.size 159 i0 (.pointer none) 1 8 Try.underlying156 I.out.1 I.out.2.1 I.out.2.2.1 I.out.2.2.2 rfl (by decide) (.slice A k cc) k _ (by simp [Act.eval, Act.put]) (row_keep HS2.out.row ((Keep.refl (fun _ => False) w2).alloc (.cells #[.pointer (some ⟨wr.heap.size, 0, none⟩)] 159)) (by simp)) ⟨w2.heap.size, 0, none⟩ 1 1 [.pointer (some ⟨wr.heap.size, 0, none⟩)] (by simp [Act.eval, Act.put]) rfl (new_cells w2 [.pointer (some ⟨wr.heap.size, 0, none⟩)] 159) (by simp [Value.oneCell']) (by decide) (by unfold maxLen; omega) (by omega) (by simp; omega) _ rfl ?_; intro gr cr w4 hown hgrow hat hgl; have HO := Av.mk hown; have HG := Av.mk hgrow; have b4 : Blk w4 w.heap.size 158 #[.slice A k cc] := (HS2.out.blk.alloc _).grown hgrow (row_ne HS2.out.row HS2.out.blk (by decide)); have c04 := b4.cell 0; have f04 := b4.frozen 0; simp at c04; clear hown hgrow hat b4))
      all_goals
        have HQ := Av.mk (shb_grow HS.out HF2.out (Nat.le_trans hbase HB2.out.size) HL2.out HBB.out HG.out HO.out)
        have hge : ∀ i, (Value.slice A k cc).ownBlock = some i → w.heap.size ≤ i := fun i hi => row_ge HS.out.row hi
        have HB4 := Av.mk (below_keep HB2.out HB2.out.size HQ.out.2.2 (by rintro i (rfl | e); exact Nat.le_refl _; exact hge i e.symm))
        have HF4 := Av.mk (HQ.out.2.1.congr (R' := joinF m R (mx room 1)) (G' := up G' (m + k) wr.heap.size) (V' := up V' (m + k) (.slice none 0 0)) (Ls' := joinF m Ls []) (fun i hi => ⟨join_up m R _ k i, rfl, rfl, join_up m Ls _ k i⟩))
        have HS4 := Av.mk HQ.out.1
        have hlt4 : w.heap.size + k < w.heap.size + k + 1 := by omega
        have hwr : w.heap.size ≤ wr.heap.size := by omega
        clear HL2 HBB HS2 HG HO HS HF2 c0 f0 c02 f02 c04 f04 HQ
        generalize w4.setCell _ _ = w5 at *
        generalize wr.heap.size = gi at *
        go_wp2_with fail
        go_roundw
        case rel => exact ⟨k + 1, _, _, _, by omega, by go_num, HS4.out, HF4.out, HB4.out, ⟨fun j hj => by rw [up_other _ _ _ (by omega), up_other _ _ _ (by omega)]; exact HE.out j hj⟩⟩
        case measure => simp [intOf]; omega
    · obtain rfl : k = n := by omega
      go_wp2
      go_ret
      exact ⟨v, G', V', rfl, HB2.out, HS.out, HF2.out, HE.out⟩
section
variable {w w' : World} {base m : Nat} {R : Nat → Int} {G : Nat → Nat} {V : Nat → Value} {Ls : Nat → List (ByteArray × Pay)} {i : Nat} {l' : List (ByteArray × Pay)} {res : Value} {e : Ending}
theorem after_put (hF : Fam w base m R G V Ls) (hi : i < m) (h : PutS base (G i) (R i) (V i) l' res w e w') :
    e = .returned res ∧ ∃ v', Fam w' base m R G (up V i v') (up Ls i l') ∧ Keep (fun k => k = G i ∨ some k = (V i).ownBlock) w w' := by
  obtain ⟨he, v', hl, hk, ho⟩ := h
  exact ⟨he, v', hF.putt hi hl hk ho, hk⟩
theorem after_get (hF : Fam w base m R G V Ls) (hi : i < m) (h : GetS base (G i) (R i) (V i) l' res w e w') :
    e = .returned res ∧ Fam w' base m R G V (up Ls i l') ∧ Keep (fun k => k = G i ∨ some k = (V i).ownBlock) w w' := by
  obtain ⟨he, hl, hk⟩ := h
  exact ⟨he, hF.got hi hl hk, hk.mono (fun _ _ h => .inr h)⟩
theorem below_fam {B : Nat} {w0 : World} (hF : Fam w base m R G V Ls) (hi : i < m) (hb : Below B w0 w) (hB : B ≤ w.heap.size) (hbase : B ≤ base) (hk : Keep (fun k => k = G i ∨ some k = (V i).ownBlock) w w') : Below B w0 w' :=
  below_keep hb hB hk (by
    rintro k (rfl | e)
    · exact Nat.le_trans hbase (hF.ge i hi)
    · exact Nat.le_trans hbase (row_ge (hF.lru i hi).row e.symm))
theorem Shb.by_fam {b2 g n : Nat} {v : Value} {Gs : Nat → Nat} (h : Shb w b2 g n v Gs) (hF : Fam w base m R G V Ls) (hi : i < m) (hk : Keep (fun k => k = G i ∨ some k = (V i).ownBlock) w w') : Shb w' b2 g n v Gs :=
  h.by_cache (hF.lru i hi) hk
end

set_option maxHeartbeats 4000000 in
theorem most_calls (b2 g n : Nat) (v : Value) (off base m : Nat) (R : Nat → Int) (G : Nat → Nat) (V : Nat → Value) (Ls : Nat → List (ByteArray × Pay)) (w : World) (hS : Shb w b2 g n v (fun j => G (off + j))) (hF : Fam w base m R G V Ls) (hm : off + n ≤ m) (hn : n ≤ 256) :
    Calls Try.prog 84 #[.pointer (some ⟨g, 0, none⟩)] w (Same (.int .i64 (most (fun j => (Ls (off + j)).length) n)) w) := by
  have HS := Av.mk hS
  have HF := Av.mk hF
  have c0 := hS.blk.cell 0
  have lt := hS.blk.lt
  obtain ⟨A, c, rfl⟩ := own_slice hS.row
  simp at c0
  clear hS hF
  go_enter Try.func84, Try.ntmps84
  go_wp2_with fail
  go_loop [3, 11] (fun x i => ∃ k : Nat, k ≤ n ∧ i = .int .i64 k ∧ x = .int .i64 (most (fun j => (Ls (off + j)).length) k)) (fun _ i => n - (intOf i).toNat)
  case atStart => exact ⟨0, Nat.zero_le _, rfl, rfl⟩
  case round =>
    obtain ⟨k, hk, rfl, rfl⟩ := hrel
    by_cases hlt : k < n
    · obtain ⟨r, c2, e, hr, hc⟩ := HS.out.shape1 (by omega)
      cases e
      have ck := HS.out.cell k hlt
      have hL := len_S base (G (off + k)) (R (off + k)) (V (off + k)) (Ls (off + k)) w (HF.out.lru _ (by omega))
      have HX := Av.mk hL
      clear hL
      go_wp2_with fail
      refine HX.out.mono ?_
      rintro e _ ⟨rfl, rfl⟩
      have hmx := mx_nat (most (fun j => (Ls (off + j)).length) k) (Ls (off + k)).length
      go_wp2_with fail
      go_round
      case rel => exact ⟨k + 1, by omega, by go_num, by simp [most]⟩
      case measure => simp [intOf]; omega
    · obtain rfl : k = n := by omega
      go_wp2
      go_ret
      exact ⟨rfl, rfl⟩

set_option maxHeartbeats 4000000 in
theorem slen_calls (b2 g n : Nat) (v : Value) (off base m : Nat) (R : Nat → Int) (G : Nat → Nat) (V : Nat → Value) (Ls : Nat → List (ByteArray × Pay)) (j : Nat) (w : World) (hS : Shb w b2 g n v (fun j => G (off + j))) (hF : Fam w base m R G V Ls) (hm : off + n ≤ m) (hj : j < n) :
    Calls Try.prog 83 #[.pointer (some ⟨g, 0, none⟩), .int .i64 j] w (Same (.int .i64 (Ls (off + j)).length) w) := by
  have c0 := hS.blk.cell 0
  have lt := hS.blk.lt
  obtain ⟨r, c, rfl, hr, hc⟩ := hS.shape1 (by omega)
  have ck := hS.cell j hj
  have HX := Av.mk (len_S base (G (off + j)) (R (off + j)) (V (off + j)) (Ls (off + j)) w (hF.lru _ (by omega)))
  simp at c0
  clear hS hF
  go_enter Try.func83, Try.ntmps83
  go_wp2_with fail
  refine HX.out.mono ?_
  rintro e _ ⟨rfl, rfl⟩
  go_wp2
  go_ret
  exact ⟨rfl, rfl⟩

theorem nodup_use (l : List (ByteArray × Pay)) (x : ByteArray × Pay) (h : (l.map (·.1)).Nodup) : ((x :: l.filter (fun p => decide (p.1 ≠ x.1))).map (·.1)).Nodup := by
  rw [List.map_cons, List.nodup_cons]
  refine ⟨?_, h.sublist (List.Sublist.map _ List.filter_sublist)⟩
  simp only [List.mem_map, List.mem_filter, not_exists, not_and]
  rintro p ⟨_, hp⟩ e
  simp at hp
  exact hp e
theorem len_use_hit (l : List (ByteArray × Pay)) (x : ByteArray × Pay) (h : (l.map (·.1)).Nodup) (hk : keyAt x.1 l < l.length) : (x :: l.filter (fun p => decide (p.1 ≠ x.1))).length = l.length := by
  rw [← erase_key x.1 l h, List.length_cons, List.length_eraseIdx, if_pos hk]
  omega

abbrev PL := List (ByteArray × Pay)
/-- A pair stands first, and its key nowhere else. -/
def useL (k : ByteArray) (x : Pay) (l : PL) : PL := (k, x) :: l.filter (fun p => decide (p.1 ≠ k))
theorem useL_nodup (k : ByteArray) (x : Pay) (l : PL) (h : (l.map (·.1)).Nodup) : ((useL k x l).map (·.1)).Nodup := nodup_use l (k, x) h
theorem useL_len (k : ByteArray) (x : Pay) (l : PL) : (useL k x l).length ≤ l.length + 1 := by
  unfold useL
  have := List.length_filter_le (fun p : ByteArray × Pay => decide (p.1 ≠ k)) l
  rw [List.length_cons]
  omega
theorem mem_useL (k : ByteArray) (x : Pay) (l : PL) (p : ByteArray × Pay) : p ∈ useL k x l ↔ p = (k, x) ∨ (p ∈ l ∧ p.1 ≠ k) := by
  unfold useL
  rw [List.mem_cons, List.mem_filter]
  simp
/-- A Put that finds room. -/
theorem putIs_fits (r : Int) (l : PL) (k : ByteArray) (x : Pay) (hn : (l.map (·.1)).Nodup) (hl : l.length < 900000) (hr : (l.length : Int) < r) : PutIs r l k x (useL k x l) ⟨#[]⟩ false := by
  intro w base g v h hb
  by_cases hk : keyAt k l < l.length
  · unfold useL
    rw [← erase_key k l hn]
    exact put_hit_S base g r v l k x w h (by omega) _ rfl hk
  · unfold useL
    rw [filter_none k l (by rwa [keyAt_lt] at hk)]
    exact put_room_S base g r v l k x w h hl _ rfl hk hr hb
/-- A Put, whatever the room. -/
theorem putIs_any (r : Int) (l : PL) (k : ByteArray) (x : Pay) (hn : (l.map (·.1)).Nodup) (hl : l.length < 900000) (hf : (l.length : Int) ≤ r) (h1 : 1 ≤ r) :
    ∃ (l' : PL) (gone : ByteArray) (is : Bool), PutIs r l k x l' gone is ∧ (l'.map (·.1)).Nodup ∧ (l'.length : Int) ≤ r ∧ l'.length ≤ l.length + 1 ∧ ∀ p, p ∈ l' → p = (k, x) ∨ (p ∈ l ∧ p.1 ≠ k) := by
  by_cases hr : (l.length : Int) < r
  · have := useL_len k x l
    exact ⟨_, _, _, putIs_fits r l k x hn hl hr, useL_nodup k x l hn, by omega, this, fun p hp => (mem_useL k x l p).1 hp⟩
  · by_cases hk : keyAt k l < l.length
    · have hlen := len_use_hit l (k, x) hn hk
      refine ⟨useL k x l, ⟨#[]⟩, false, fun w base g v h hb => ?_, useL_nodup k x l hn, by have h2 : (useL k x l).length = l.length := hlen; omega, useL_len k x l, fun p hp => (mem_useL k x l p).1 hp⟩
      unfold useL
      rw [← erase_key k l hn]
      exact put_hit_S base g r v l k x w h (by omega) _ rfl hk
    · have hno : k ∉ l.map (·.1) := by rwa [keyAt_lt] at hk
      have hlt : l.length - 1 < l.length := by omega
      refine ⟨(k, x) :: l.eraseIdx (l.length - 1), (l[l.length - 1]'hlt).1, true, fun w base g v h hb => put_evict_S base g r v l k x w h (by omega) _ rfl hk (by omega) (by omega), ?_, ?_, ?_, ?_⟩
      · rw [List.map_cons, List.nodup_cons]
        refine ⟨fun hm => hno ?_, hn.sublist (List.Sublist.map _ (List.eraseIdx_sublist _ _))⟩
        exact (List.Sublist.map _ (List.eraseIdx_sublist l (l.length - 1))).subset hm
      · rw [List.length_cons, List.length_eraseIdx, if_pos hlt]; omega
      · rw [List.length_cons, List.length_eraseIdx, if_pos hlt]; omega
      · intro p hp
        rcases List.mem_cons.1 hp with rfl | hp
        · exact .inl rfl
        · have hm := (List.eraseIdx_sublist l (l.length - 1)).subset hp
          refine .inr ⟨hm, fun e => hno ?_⟩
          rw [← e]
          exact List.mem_map_of_mem hm
/-- A Get that finds it. -/
theorem getIs_hit (r : Int) (l : PL) (k : ByteArray) (x : Pay) (hn : (l.map (·.1)).Nodup) (hl : l.length < 900000) (hm : (k, x) ∈ l) : GetIs r l k (useL k x l) x true := by
  intro w base g v h
  have hk : keyAt k l < l.length := by rw [keyAt_lt]; exact List.mem_map_of_mem hm
  have hkk := keyAt_hit k l hk
  have hx : l[keyAt k l] = (k, x) := by
    have h1 := List.getElem_mem hk
    exact key_one l hn h1 hm hkk
  have := get_hit_S base g r v l k w h (by omega) _ rfl hk
  rw [hx, erase_key k l hn] at this
  exact this
where
  key_one (l : PL) (hn : (l.map (·.1)).Nodup) {p q : ByteArray × Pay} (hp : p ∈ l) (hq : q ∈ l) (e : p.1 = q.1) : p = q := by
    induction l with
    | nil => cases hp
    | cons a l ih =>
      rw [List.map_cons, List.nodup_cons] at hn
      rcases List.mem_cons.1 hp with rfl | hp' <;> rcases List.mem_cons.1 hq with rfl | hq'
      · rfl
      · exact absurd (show q.1 ∈ l.map (·.1) from List.mem_map_of_mem hq') (by rw [← e]; exact hn.1)
      · exact absurd (show p.1 ∈ l.map (·.1) from List.mem_map_of_mem hp') (by rw [e]; exact hn.1)
      · exact ih hn.2 hp' hq'
theorem getIs_not (r : Int) (l : PL) (k : ByteArray) (hl : l.length < 900000) (hk : k ∉ l.map (·.1)) : GetIs r l k l ⟨0, none, 0, 0⟩ false := by
  intro w base g v h
  exact get_not_S base g r v l k w h (by omega) _ rfl (by rwa [keyAt_lt])
theorem getIs_any (r : Int) (l : PL) (k : ByteArray) (hn : (l.map (·.1)).Nodup) (hl : l.length < 900000) :
    ∃ (l' : PL) (x : Pay) (ok : Bool), GetIs r l k l' x ok ∧ (l'.map (·.1)).Nodup ∧ l'.length = l.length ∧ (∀ p, p ∈ l' → p ∈ l) ∧ (ok = true → (k, x) ∈ l) := by
  by_cases hk : k ∈ l.map (·.1)
  · obtain ⟨p, hp, rfl⟩ := List.mem_map.1 hk
    refine ⟨useL p.1 p.2 l, p.2, true, getIs_hit r l p.1 p.2 hn hl hp, useL_nodup _ _ l hn, ?_, fun q hq => ?_, fun _ => hp⟩
    · exact len_use_hit l p hn (by rw [keyAt_lt]; exact hk)
    · rcases (mem_useL _ _ l q).1 hq with rfl | h
      · exact hp
      · exact h.1
  · exact ⟨l, ⟨0, none, 0, 0⟩, false, getIs_not r l k hl hk, hn, rfl, fun _ h => h, fun h => by cases h⟩

theorem Shb.congr {w : World} {b g n : Nat} {v : Value} {G G' : Nat → Nat} (h : Shb w b g n v G) (e : ∀ j, j < n → G' j = G j) : Shb w b g n v G' := by
  refine ⟨h.blk, ?_⟩
  have : ((List.range n).map fun i => Value.pointer (some ⟨G' i, 0, none⟩)) = (List.range n).map fun i => Value.pointer (some ⟨G i, 0, none⟩) :=
    List.map_congr_left (fun j hj => by rw [e j (List.mem_range.1 hj)])
  rw [this]
  exact h.row
theorem Blk.by_fam {w w' : World} {base m : Nat} {R : Nat → Int} {G : Nat → Nat} {V : Nat → Value} {Ls : Nat → PL} {i b : Nat} {t : TypeId} {cs : Array Value} (hb : Blk w b t cs) (h1 : t ≠ 166) (h2 : t ≠ 171)
    (hF : Fam w base m R G V Ls) (hi : i < m) (hk : Keep (fun k => k = G i ∨ some k = (V i).ownBlock) w w') : Blk w' b t cs :=
  hb.keep hk (by
    rintro (e | e)
    · exact hb.ne_ (hF.lru i hi).blk h1 e
    · exact row_ne (hF.lru i hi).row hb h2 e)
theorem row_by_fam {w w' : World} {base m : Nat} {R : Nat → Int} {G : Nat → Nat} {V : Nat → Value} {Ls : Nat → PL} {i b e size n : Nat} {v : Value} {xs : List Value} (h : w.ownsRow b e size v n xs) (h1 : e ≠ 166) (h2 : e ≠ 171)
    (hF : Fam w base m R G V Ls) (hi : i < m) (hk : Keep (fun k => k = G i ∨ some k = (V i).ownBlock) w w') : w'.ownsRow b e size v n xs :=
  row_keep h hk (by
    rintro k hk' (e' | e')
    · exact row_ne h (hF.lru i hi).blk (Ne.symm h1) (by rw [hk', e'])
    · exact row_ne_row h (hF.lru i hi).row h2 k hk' e')

set_option maxHeartbeats 4000000 in
theorem slen_out (b2 g n : Nat) (v : Value) (Gs : Nat → Nat) (j : Int) (w : World) (hS : Shb w b2 g n v Gs) (h : j < 0 ∨ (n : Int) ≤ j) :
    Calls Try.prog 83 #[.pointer (some ⟨g, 0, none⟩), .int .i64 j] w (Same (.int .i64 0) w) := by
  have c0 := hS.blk.cell 0
  have lt := hS.blk.lt
  obtain ⟨A, c, rfl⟩ := own_slice hS.row
  simp at c0
  clear hS
  rcases h with h | h
  · go_enter Try.func83, Try.ntmps83
    go_wp2
    go_ret
    exact ⟨rfl, rfl⟩
  · have h0 : ¬ j < 0 := by omega
    go_enter Try.func83, Try.ntmps83
    go_wp2
    go_ret
    exact ⟨rfl, rfl⟩

end Go.Proofs.Ytiopmehaghcpfaa.L
