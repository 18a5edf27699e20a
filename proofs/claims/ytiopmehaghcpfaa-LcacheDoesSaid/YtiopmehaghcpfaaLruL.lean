/- The contracts of lru.Cache[string, lcache.list]. Printed by gen_lrux.py. -/
import Derived.Test.YtiopmehaghcpfaaLruS
namespace Go.Proofs.Ytiopmehaghcpfaa.L
open Go.Proofs.Ytiopmehaghcpfaa
open Go.RowKit Go.Maps
set_option linter.unusedSimpArgs false
set_option linter.unusedVariables false
attribute [local go_sem ↓] run_max_int run_min_int

structure Pay where
  ep : Int
  A : Option Addr
  n : Nat
  c : Nat
def Pay.val (p : Pay) : Value := .agg #[.int .i64 p.ep, .slice p.A p.n p.c]
def csS (p : ByteArray × Pay) : List Value := [.string p.1, .int .i64 p.2.ep, .slice p.2.A p.2.n p.2.c]
theorem csS_len (p : ByteArray × Pay) : (csS p).length = 3 := rfl
abbrev LruS (w : World) (base g : Nat) (room : Int) (v : Value) (l : List (ByteArray × Pay)) : Prop := LruW 166 171 3 csS w base g room v l

set_option maxHeartbeats 4000000 in
theorem find_S (base g : Nat) (room : Int) (v : Value) (l : List (ByteArray × Pay)) (k : ByteArray) (w : World) (h : LruS w base g room v l) (hl : l.length < 1000000) (n : Nat) (hn : n = keyAt k l) :
    Calls Try.prog 99 #[.pointer (some ⟨g, 0, none⟩), .string k] w (RetB (.int .i64 (fnd n l.length)) w) := by
  have Hnot : ∀ i, i < n → ∀ hl : i < l.length, Av (l[i].1 ≠ k) := by subst hn; exact fun i hi hl => Av.mk (keyAt_not k l i hi hl)
  have Hhit : ∀ hl : n < l.length, Av (l[n].1 = k) := by subst hn; exact fun hl => Av.mk (keyAt_hit k l hl)
  have hle : n ≤ l.length := by subst hn; exact keyAt_le k l
  clear hn
  have HL := Av.mk h
  have cell := h.blk.cell
  have frozen := h.blk.frozen
  have lt := h.blk.lt
  obtain ⟨A, c, rfl⟩ := h.shape
  clear h
  go_enter Try.func99, Try.ntmps99
  go_wp2_with fail
  go_loopw [12] (fun i wr => ∃ j : Nat, j ≤ n ∧ j ≤ l.length ∧ i = .int .i64 j ∧ Below w.heap.size w wr) (fun i _ => l.length - (intOf i).toNat)
  case atStart => exact ⟨0, Nat.zero_le _, Nat.zero_le _, rfl, Below.refl _ _⟩
  case round =>
    obtain ⟨j, hj, hjl, rfl, hb⟩ := hrel
    have HB := Av.mk hb
    clear hb
    by_cases hlt : j < l.length
    · obtain ⟨r, c2, e, hgr, hr, hc⟩ := HL.out.shape1 (by omega) (by decide)
      cases e
      have HC := HL.out.below HB.out
      have c0 : wr.cell? ⟨r, j * 3, none⟩ = some (.string l[j].1) := HC.cell csS_len j hlt 0 (by omega)
      have c1 : wr.cell? ⟨r, j * 3 + 1, none⟩ = some (.int .i64 l[j].2.ep) := HC.cell csS_len j hlt 1 (by omega)
      have c2 : wr.cell? ⟨r, j * 3 + 2, none⟩ = some (.slice l[j].2.A l[j].2.n l[j].2.c) := HC.cell csS_len j hlt 2 (by omega)
      clear HC
      by_cases hjn : j = n
      · subst hjn
        have ht : (l[j].1.toList == k.toList) = true := eqB_yes (Hhit hlt).out
        rw [fnd_hit hlt]
        clear Hhit Hnot
        go_wp2_with fail
        go_ret
        exact ⟨rfl, below_alloc HB.out _⟩
      · have ht : (l[j].1.toList == k.toList) = false := eqB_not (Hnot j (by omega) hlt).out
        go_wp2_with fail
        go_roundw
        case rel => exact ⟨j + 1, by omega, by omega, by go_num, below_alloc HB.out _⟩
        case measure => simp [intOf]; omega
    · obtain rfl : j = l.length := by omega
      go_wp2
      go_ret
      exact ⟨by rw [fnd_not (by omega)]; rfl, HB.out⟩

theorem one_S (l : List (ByteArray × Pay)) : ∀ v ∈ l.flatMap csS, v.oneCell' = true := by
  intro v hv
  obtain ⟨x, _, hx⟩ := List.mem_flatMap.1 hv
  simp [csS] at hx
  rcases hx with rfl | rfl | rfl <;> rfl

theorem one_S' (x : ByteArray × Pay) : ∀ v ∈ (#[.string x.1, .int .i64 x.2.ep, .slice x.2.A x.2.n x.2.c] : Array Value).toList, v.oneCell' = true := by
  intro v hv
  simp at hv
  rcases hv with rfl | rfl | rfl <;> rfl

def FirstS (base g : Nat) (room : Int) (v : Value) (l : List (ByteArray × Pay)) (w : World) (e : Ending) (w' : World) : Prop :=
  e = .returned (.tuple #[]) ∧ LruS w' base g room v l ∧ Keep (fun k => some k = v.ownBlock) w w'

set_option maxRecDepth 100000 in
set_option maxHeartbeats 4000000 in
theorem first_S (base g : Nat) (room : Int) (v : Value) (l : List (ByteArray × Pay)) (x : ByteArray × Pay) (at_ : Nat) (w : World) (h : LruS w base g room v l) (hl : l.length < 1000000) (hat : at_ < l.length) :
    Calls Try.prog 100 #[.pointer (some ⟨g, 0, none⟩), .agg #[.string x.1, .int .i64 x.2.ep, .slice x.2.A x.2.n x.2.c], .int .i64 at_] w (FirstS base g room v (x :: l.eraseIdx at_) w) := by
  obtain ⟨r, c, rfl, hgr, hr, hc⟩ := h.shape1 (by omega) (by decide)
  have HL := Av.mk h
  clear h
  go_enter Try.func100, Try.ntmps100
  go_upto_region 1 with (fail)
  have hb0 := Keep.alloc (Keep.refl (fun k => some k = (Value.slice (some ⟨r, 0, none⟩) l.length c).ownBlock) w) (.cells #[.string x.1, .int .i64 x.2.ep, .slice x.2.A x.2.n x.2.c] 171)
  have b0 := Blk.new w 171 #[.string x.1, .int .i64 x.2.ep, .slice x.2.A x.2.n x.2.c]
  have HL1 := Av.mk (HL.out.keep (Keep.alloc (Keep.refl (fun _ => False) w) (.cells #[.string x.1, .int .i64 x.2.ep, .slice x.2.A x.2.n x.2.c] 171)) (by simp) (by simp))
  have lt0 : w.heap.size < (w.alloc (.cells #[.string x.1, .int .i64 x.2.ep, .slice x.2.A x.2.n x.2.c] 171)).heap.size := b0.lt
  have hne : w.heap.size ≠ r := by omega
  clear HL
  have HB := Av.mk hb0
  clear hb0
  generalize w.alloc _ = w1 at *
  have c1 := HL1.out.blk.cell 1
  have d0 := b0.cell 0
  have d1 := b0.cell 1
  have d2 := b0.cell 2
  have lt1 := HL1.out.blk.lt
  simp at c1 d0 d1 d2
  have B0 := Av.mk b0
  clear b0
  refine wp_tail 13 (by kernel_rfl) (by kernel_rfl) ?_
  simp only [List.take_succ_cons, List.take_zero, List.drop_succ_cons, List.drop_zero]
  have hw : IntKind.i64.wrap ((at_ : Int) + 1) = (at_ : Int) + 1 := wrapI (by omega) (by omega)
  iterate 6 (refine wpStill_step (fun K hK => ?_); go_simp; refine hK _ ?_; clear hK K)
  refine wpStill_step (fun K hK => ?_)
  go_simp
  rw [if_pos (by omega), if_pos (by omega)]
  refine ⟨rfl, hK _ ?_⟩
  clear hK K
  obtain ⟨dp, hdp⟩ : ∃ dp, dp = (if c = 1 then some (⟨r, 0, none⟩ : Addr) else some ⟨r, 3, none⟩) := ⟨_, rfl⟩
  rw [← hdp]
  have HD : Av (0 < at_ → dp = some ⟨r, 3, none⟩) := ⟨fun _ => by rw [hdp, if_neg (by omega)]⟩
  clear hdp
  iterate 5 (refine wpStill_step (fun K hK => ?_); go_simp; refine hK _ ?_; clear hK K)
  refine wpStill_step (fun K hK => ?_)
  go_simp
  rw [if_pos (by omega)]
  refine ⟨rfl, hK _ ?_⟩
  clear hK K
  refine wpStill_nil ?_
  go_simp
  refine wpList_copy_on rfl (.tmp 12) (.tmp 18) 164 164 rfl 171 (by kernel_rfl) 3 (by kernel_rfl) dp (some ⟨r, 0, none⟩) at_ (c - 1) c rfl rfl base r l.length c (l.flatMap csS) (show w1.drew.ownsRow base 171 3 _ _ _ from HL1.out.row) hat (fun h => ⟨HD.out h, rfl⟩) ?_ ?_
  · exact one_S l
  intro w2 hr2 hk2
  have HG2 := Av.mk (HL1.out.blk.drew.keep hk2 hgr)
  have HX2 := Av.mk (B0.out.drew.keep hk2 hne)
  have HK2 := Av.mk (HB.out.drew.trans (hk2.mono (fun k _ (e : k = r) => (by subst e; rfl : some k = (Value.slice (some ⟨r, 0, none⟩) l.length c).ownBlock))))
  have HR2 := Av.mk hr2
  clear hr2 hk2 HB B0 c1 d0 d1 d2 HD
  have c1 := HG2.out.cell 1
  have d0 := HX2.out.cell 0
  have d1 := HX2.out.cell 1
  have d2 := HX2.out.cell 2
  simp at c1 d0 d1 d2
  go_upto_region 2 with (fail)
  refine wp_tail 6 (by kernel_rfl) (by kernel_rfl) ?_
  simp only [List.take_succ_cons, List.take_zero, List.drop_succ_cons, List.drop_zero]
  iterate 5 (refine wpStill_step (fun K hK => ?_); go_simp; refine hK _ ?_; clear hK K)
  refine wpStill_step (fun K hK => ?_)
  go_simp
  rw [if_pos (by omega)]
  refine ⟨rfl, hK _ ?_⟩
  clear hK K
  refine wpStill_nil ?_
  go_simp
  refine wpList_lay rfl 171 (.tmp 25) (.tmp 24) rfl base r l.length c 0 171 3 _ #[.string x.1, .int .i64 x.2.ep, .slice x.2.A x.2.n x.2.c] rfl rfl (by kernel_rfl) (show w2.drew.ownsRow base 171 3 _ _ _ from HR2.out) (by simp; omega) (one_S' x) ?_
  intro w3 hr3 hk3
  have HL3 := Av.mk (show LruS w3 base g room (.slice (some ⟨r, 0, none⟩) l.length c) (x :: l.eraseIdx at_) from
    ⟨HG2.out.drew.keep hk3 hgr, by
      have e : (x :: l.eraseIdx at_).length = l.length := by simp [List.length_eraseIdx, hat]; omega
      rw [e, ← first_cells csS 3 csS_len l x at_ hat]
      exact hr3⟩)
  have HK3 := Av.mk (HK2.out.drew.trans (hk3.mono (fun k _ (e : k = r) => (by subst e; rfl : some k = (Value.slice (some ⟨r, 0, none⟩) l.length c).ownBlock))))
  clear hr3 hk3 HG2 HX2 HK2 HR2 HL1
  go_wp2
  refine bodyPost_ret (v := .tuple #[]) (by simp [results, Try.results100, go_sem]) rfl ?_
  exact ⟨rfl, HL3.out, HK3.out⟩

theorem len_S (base g : Nat) (room : Int) (v : Value) (l : List (ByteArray × Pay)) (w : World) (h : LruS w base g room v l) : Calls Try.prog 95 #[.pointer (some ⟨g, 0, none⟩)] w (Same (.int .i64 l.length) w) := by
  have c1 := h.blk.cell 1
  have lt := h.blk.lt
  obtain ⟨A, c, rfl⟩ := h.shape
  simp at c1
  clear h
  go_enter Try.func95, Try.ntmps95
  go_wp2
  go_ret
  exact ⟨rfl, rfl⟩

def NewS (room : Int) (w : World) (e : Ending) (w' : World) : Prop :=
  e = .returned (.pointer (some ⟨w.heap.size, 0, none⟩)) ∧ LruS w' w.heap.size w.heap.size (mx room 1) (.slice none 0 0) [] ∧ Below w.heap.size w w'
theorem new_S (room : Int) (w : World) : Calls Try.prog 90 #[.int .i64 room] w (NewS room w) := by
  go_enter Try.func90, Try.ntmps90
  go_wp2
  go_ret
  exact ⟨rfl, ⟨Blk.new w 166 #[.int .i64 (mx room 1), .slice none 0 0], rfl, .inl ⟨rfl, rfl⟩⟩, (Below.refl _ w).alloc (Nat.le_refl _) _⟩

def PutS (base g : Nat) (room : Int) (v : Value) (l : List (ByteArray × Pay)) (res : Value) (w : World) (e : Ending) (w' : World) : Prop :=
  e = .returned res ∧ ∃ v', LruS w' base g room v' l ∧ Keep (fun k => k = g ∨ some k = v.ownBlock) w w' ∧ Loc v v' w

set_option maxHeartbeats 4000000 in
theorem put_hit_S (base g : Nat) (room : Int) (v : Value) (l : List (ByteArray × Pay)) (k : ByteArray) (x : Pay) (w : World) (h : LruS w base g room v l) (hl : l.length < 1000000) (n : Nat) (hn : n = keyAt k l) (hlt : n < l.length) :
    Calls Try.prog 93 #[.pointer (some ⟨g, 0, none⟩), .string k, .agg #[.int .i64 x.ep, .slice x.A x.n x.c]] w (PutS base g room v ((k, x) :: l.eraseIdx n) (.tuple #[.string (⟨#[]⟩ : ByteArray), .bool false]) w) := by
  have HL := Av.mk (h.below (below_alloc (Below.refl _ w) (.cells #[.int .i64 x.ep, .slice x.A x.n x.c] 141)))
  have HB0 := Av.mk (Keep.alloc (Keep.refl (fun k => k = g ∨ some k = v.ownBlock) w) (.cells #[.int .i64 x.ep, .slice x.A x.n x.c] 141))
  have X := Av.mk (Blk.new w 141 #[.int .i64 x.ep, .slice x.A x.n x.c])
  have hgx : g ≠ w.heap.size := Nat.ne_of_lt h.blk.lt
  have hgx2 : w.heap.size ≠ g := hgx.symm
  have h0 := h
  clear h
  go_enter Try.func93, Try.ntmps93
  go_wp2_with fail
  generalize w.alloc (.cells #[.int .i64 x.ep, .slice x.A x.n x.c] 141) = w0 at *
  have HF := Av.mk (find_S base g room v l k w0 HL.out hl n hn)
  rw [fnd_hit hlt] at HF
  clear hn h0
  refine HF.out.mono ?_
  rintro e w1 ⟨rfl, hb⟩
  have HL1 := Av.mk (HL.out.below hb)
  have HB := Av.mk (HB0.out.trans (Keep.of_below (S := fun k => k = g ∨ some k = v.ownBlock) hb))
  have X1 := Av.mk (X.out.keep (Keep.of_below (S := fun _ => False) hb) (by simp))
  clear hb HF HL HB0 X
  have y0 := X1.out.cell 0
  have y1 := X1.out.cell 1
  have lx := X1.out.lt
  simp at y0 y1
  go_wp2_with fail
  refine (first_S base g room v l (k, x) n w1 HL1.out hl hlt).mono ?_
  rintro e w2 ⟨rfl, h2, k2⟩
  have HL2 := Av.mk h2
  have HK := Av.mk (HB.out.trans (k2.mono (fun _ _ h => .inr h)))
  clear h2 k2
  go_wp2
  go_ret2
  exact ⟨rfl, v, HL2.out, HK.out, fun _ h _ => h.symm⟩

set_option maxHeartbeats 4000000 in
theorem put_evict_S (base g : Nat) (room : Int) (v : Value) (l : List (ByteArray × Pay)) (k : ByteArray) (x : Pay) (w : World) (h : LruS w base g room v l) (hl : l.length < 1000000) (n : Nat) (hn : n = keyAt k l) (hlt : ¬ n < l.length) (hr : room ≤ l.length) (h0 : 0 < l.length) :
    Calls Try.prog 93 #[.pointer (some ⟨g, 0, none⟩), .string k, .agg #[.int .i64 x.ep, .slice x.A x.n x.c]] w (PutS base g room v ((k, x) :: l.eraseIdx (l.length - 1)) (.tuple #[.string (l[l.length - 1]'(by omega)).1, .bool true]) w) := by
  have HL := Av.mk (h.below (below_alloc (Below.refl _ w) (.cells #[.int .i64 x.ep, .slice x.A x.n x.c] 141)))
  have HB0 := Av.mk (Keep.alloc (Keep.refl (fun k => k = g ∨ some k = v.ownBlock) w) (.cells #[.int .i64 x.ep, .slice x.A x.n x.c] 141))
  have X := Av.mk (Blk.new w 141 #[.int .i64 x.ep, .slice x.A x.n x.c])
  have hgx : g ≠ w.heap.size := Nat.ne_of_lt h.blk.lt
  have hgx2 : w.heap.size ≠ g := hgx.symm
  have h00 := h
  clear h
  go_enter Try.func93, Try.ntmps93
  go_wp2_with fail
  generalize w.alloc (.cells #[.int .i64 x.ep, .slice x.A x.n x.c] 141) = w0 at *
  have HF := Av.mk (find_S base g room v l k w0 HL.out hl n hn)
  rw [fnd_not hlt] at HF
  clear hn h00
  refine HF.out.mono ?_
  rintro e w1 ⟨rfl, hb⟩
  have HL1 := Av.mk (HL.out.below hb)
  have HB := Av.mk (HB0.out.trans (Keep.of_below (S := fun k => k = g ∨ some k = v.ownBlock) hb))
  have X1 := Av.mk (X.out.keep (Keep.of_below (S := fun _ => False) hb) (by simp))
  clear hb HF HL HB0 X
  have y0 := X1.out.cell 0
  have y1 := X1.out.cell 1
  have lx := X1.out.lt
  simp at y0 y1
  obtain ⟨r, c, rfl, hgr, hr2, hc⟩ := HL1.out.shape1 (by omega) (by decide)
  have g1 := HL1.out.blk.cell 1
  have g0 := HL1.out.blk.cell 0
  have lt1 := HL1.out.blk.lt
  simp at g1 g0
  obtain ⟨m, hm⟩ : ∃ m, l.length = m + 1 := ⟨l.length - 1, by omega⟩
  have hm1 : m < l.length := by omega
  have c0 : w1.cell? ⟨r, m * 3, none⟩ = some (.string l[m].1) := HL1.out.cell csS_len m hm1 0 (by omega)
  go_wp2_with fail
  go_quiet (fail)
  go_wp2_with fail
  have e1 : l.length - 1 = m := by omega
  refine (first_S base g room _ l (k, x) m (w1.drewN nq) (HL1.out.drewN nq) hl hm1).mono ?_
  rintro e w2 ⟨rfl, h2, k2⟩
  have HL2 := Av.mk h2
  have HK := Av.mk ((HB.out.drewN nq).trans (k2.mono (fun _ _ h => .inr h)))
  clear h2 k2
  go_wp2
  go_ret2
  simp only [e1]
  exact ⟨rfl, _, HL2.out, HK.out, fun _ h _ => h.symm⟩

def GetS (base g : Nat) (room : Int) (v : Value) (l : List (ByteArray × Pay)) (res : Value) (w : World) (e : Ending) (w' : World) : Prop :=
  e = .returned res ∧ LruS w' base g room v l ∧ Keep (fun k => some k = v.ownBlock) w w'

theorem kset {S : Nat → Prop} {a w : World} {g i : Nat} {u : Value} (h : Keep S a w) (hg : a.heap.size ≤ g) : Keep S a (w.setCell ⟨g, i, none⟩ u) := h.setCell (fun h' => absurd h' (by show ¬ g < _; omega)) u
theorem kset2 {a w : World} {g i : Nat} {u : Value} (h : Keep (fun k => k = g) a w) : Keep (fun k => k = g) a (w.setCell ⟨g, i, none⟩ u) := h.setCell (p := ⟨g, i, none⟩) (fun _ => rfl) u

set_option maxHeartbeats 4000000 in
theorem get_not_S (base g : Nat) (room : Int) (v : Value) (l : List (ByteArray × Pay)) (k : ByteArray) (w : World) (h : LruS w base g room v l) (hl : l.length < 1000000) (n : Nat) (hn : n = keyAt k l) (hlt : ¬ n < l.length) :
    Calls Try.prog 92 #[.pointer (some ⟨g, 0, none⟩), .string k] w (GetS base g room v l (.tuple #[.agg #[.int .i64 0, .slice none 0 0], .bool false]) w) := by
  have HL := Av.mk (h.below (below_alloc (Below.refl _ w) (.cells #[.int .i64 0, .slice none 0 0] 141)))
  have HB0 := Av.mk (Keep.alloc (Keep.refl (fun k => some k = v.ownBlock) w) (.cells #[.int .i64 0, .slice none 0 0] 141))
  have X := Av.mk (Blk.new w 141 #[.int .i64 0, .slice none 0 0])
  have hvx : ∀ k, v.ownBlock = some k → k ≠ w.heap.size := fun k hk => by have := row_lt h.row k hk.symm; omega
  have hgx : g ≠ w.heap.size := Nat.ne_of_lt h.blk.lt
  have HV := Av.mk hvx
  have HLT := Av.mk h.blk.lt
  have h0 := h
  clear h hvx
  go_enter Try.func92, Try.ntmps92
  go_wp2_with fail
  generalize w.alloc (.cells #[.int .i64 0, .slice none 0 0] 141) = w0 at *
  have HF := Av.mk (find_S base g room v l k w0 HL.out hl n hn)
  rw [fnd_not hlt] at HF
  clear hn h0
  refine HF.out.mono ?_
  rintro e w1 ⟨rfl, hb⟩
  have HL1 := Av.mk (HL.out.below hb)
  have HB := Av.mk (HB0.out.trans (Keep.of_below (S := fun k => some k = v.ownBlock) hb))
  have X1 := Av.mk (X.out.keep (Keep.of_below (S := fun _ => False) hb) (by simp))
  clear hb HF HL HB0 X
  have z0 := X1.out.cell 0
  have z1 := X1.out.cell 1
  have f0 := X1.out.frozen 0
  have f1 := X1.out.frozen 1
  have lx := X1.out.lt
  simp at z0 z1
  go_wp2
  refine bodyPost_ret (v := .tuple #[.agg #[.int .i64 0, .slice none 0 0], .bool false]) (by simp [results, Try.results92, go_sem, z0, z1, lx]) rfl ?_
  refine ⟨rfl, HL1.out.keep (S := fun k => k = w.heap.size) ?_ hgx HV.out, ?_⟩
  · repeat (with_reducible first | apply Keep.alloc | refine kset2 ?_)
    exact Keep.refl _ _
  · repeat (with_reducible first | apply Keep.alloc | refine kset ?_ (Nat.le_refl _))
    exact HB.out

set_option maxHeartbeats 4000000 in
theorem get_hit_S (base g : Nat) (room : Int) (v : Value) (l : List (ByteArray × Pay)) (k : ByteArray) (w : World) (h : LruS w base g room v l) (hl : l.length < 1000000) (n : Nat) (hn : n = keyAt k l) (hlt : n < l.length) :
    Calls Try.prog 92 #[.pointer (some ⟨g, 0, none⟩), .string k] w (GetS base g room v (l[n] :: l.eraseIdx n) (.tuple #[.agg #[.int .i64 l[n].2.ep, .slice l[n].2.A l[n].2.n l[n].2.c], .bool true]) w) := by
  have HL := Av.mk (h.below (below_alloc (Below.refl _ w) (.cells #[.int .i64 0, .slice none 0 0] 141)))
  have HB0 := Av.mk (Keep.alloc (Keep.refl (fun k => some k = v.ownBlock) w) (.cells #[.int .i64 0, .slice none 0 0] 141))
  have X := Av.mk (Blk.new w 141 #[.int .i64 0, .slice none 0 0])
  have hvx : ∀ k, v.ownBlock = some k → k ≠ w.heap.size := fun k hk => by have := row_lt h.row k hk.symm; omega
  have hgx : g ≠ w.heap.size := Nat.ne_of_lt h.blk.lt
  have HV := Av.mk hvx
  have HLT := Av.mk h.blk.lt
  have h0 := h
  clear h hvx
  go_enter Try.func92, Try.ntmps92
  go_wp2_with fail
  generalize w.alloc (.cells #[.int .i64 0, .slice none 0 0] 141) = w0 at *
  have HF := Av.mk (find_S base g room v l k w0 HL.out hl n hn)
  rw [fnd_hit hlt] at HF
  clear hn h0
  refine HF.out.mono ?_
  rintro e w1 ⟨rfl, hb⟩
  have HL1 := Av.mk (HL.out.below hb)
  have HB := Av.mk (HB0.out.trans (Keep.of_below (S := fun k => some k = v.ownBlock) hb))
  have X1 := Av.mk (X.out.keep (Keep.of_below (S := fun _ => False) hb) (by simp))
  clear hb HF HL HB0 X
  obtain ⟨r, c, rfl, hgr, hr, hc⟩ := HL1.out.shape1 (by omega) (by decide)
  have hxr : w.heap.size ≠ r := fun e => HV.out r rfl e.symm
  have g1 := HL1.out.blk.cell 1
  have lt1 := HL1.out.blk.lt
  simp at g1
  have c0 : w1.cell? ⟨r, n * 3, none⟩ = some (.string l[n].1) := HL1.out.cell csS_len n hlt 0 (by omega)
  have c1 : w1.cell? ⟨r, n * 3 + 1, none⟩ = some (.int .i64 l[n].2.ep) := HL1.out.cell csS_len n hlt 1 (by omega)
  have c2 : w1.cell? ⟨r, n * 3 + 2, none⟩ = some (.slice l[n].2.A l[n].2.n l[n].2.c) := HL1.out.cell csS_len n hlt 2 (by omega)
  have lx := X1.out.lt
  go_wp2_with fail
  have B0 := Blk.new w1 171 #[.string l[n].1, .int .i64 l[n].2.ep, .slice l[n].2.A l[n].2.n l[n].2.c]
  have HL2 := Av.mk (HL1.out.keep (Keep.alloc (Keep.refl (fun _ => False) w1) (.cells #[.string l[n].1, .int .i64 l[n].2.ep, .slice l[n].2.A l[n].2.n l[n].2.c] 171)) (by simp) (by simp))
  have HB2 := Av.mk (HB.out.alloc (.cells #[.string l[n].1, .int .i64 l[n].2.ep, .slice l[n].2.A l[n].2.n l[n].2.c] 171))
  have X2 := Av.mk (X1.out.alloc (.cells #[.string l[n].1, .int .i64 l[n].2.ep, .slice l[n].2.A l[n].2.n l[n].2.c] 171))
  have hne : w1.heap.size ≠ r := by omega
  have hxx : w.heap.size ≠ w1.heap.size := by omega
  clear HB HL1 X1 g1 lt1 c0 c1 c2
  generalize w1.alloc (.cells #[.string l[n].1, .int .i64 l[n].2.ep, .slice l[n].2.A l[n].2.n l[n].2.c] 171) = w2 at *
  have HX := Av.mk B0
  clear B0
  refine (first_S base g room _ l l[n] n w2 HL2.out hl hlt).mono ?_
  rintro e w3 ⟨rfl, h3, k3⟩
  have HL3 := Av.mk h3
  have HX3 := Av.mk (HX.out.keep k3 (by intro e; apply hne; simpa [Value.ownBlock] using e))
  have X1 := Av.mk (X2.out.keep k3 (by intro e; apply hxr; simpa [Value.ownBlock] using e))
  have HK := Av.mk (HB2.out.trans k3)
  clear h3 k3
  have d0 := HX3.out.cell 0
  have d1 := HX3.out.cell 1
  have d2 := HX3.out.cell 2
  have z0 := X1.out.cell 0
  have z1 := X1.out.cell 1
  have f0 := X1.out.frozen 0
  have f1 := X1.out.frozen 1
  have lx3 := X1.out.lt
  have lp3 := HX3.out.lt
  simp at d0 d1 d2 z0 z1
  go_wp2
  refine bodyPost_ret (v := .tuple #[.agg #[.int .i64 l[n].2.ep, .slice l[n].2.A l[n].2.n l[n].2.c], .bool true]) (by simp [results, Try.results92, go_sem, z0, z1, lx3]) rfl ?_
  refine ⟨rfl, HL3.out.keep (S := fun k => k = w.heap.size) ?_ hgx HV.out, ?_⟩
  · repeat (with_reducible first | apply Keep.alloc | refine kset2 ?_)
    exact Keep.refl _ _
  · repeat (with_reducible first | apply Keep.alloc | refine kset ?_ (Nat.le_refl _))
    exact HK.out

theorem info171 : ∃ i, Try.prog.info? 171 = some i ∧ i.zero = some (.agg #[.string (⟨#[]⟩ : ByteArray), .int .i64 0, .slice none 0 0]) ∧ i.size = 3 ∧ i.bytes = 48 := by
  have h : (Try.prog.info? 171).map (fun i => (i.zero, i.size, i.bytes)) = some (some (.agg #[.string (⟨#[]⟩ : ByteArray), .int .i64 0, .slice none 0 0]), 3, 48) := by kernel_rfl
  obtain ⟨i, hi, e⟩ := Option.map_eq_some_iff.1 h
  simp only [Prod.mk.injEq] at e
  exact ⟨i, hi, e.1, e.2.1, e.2.2⟩
set_option maxHeartbeats 4000000 in
theorem put_room_S (base g : Nat) (room : Int) (v : Value) (l : List (ByteArray × Pay)) (k : ByteArray) (x : Pay) (w : World) (h : LruS w base g room v l) (hl : l.length < 900000) (n : Nat) (hn : n = keyAt k l) (hlt : ¬ n < l.length) (hr : (l.length : Int) < room) (hbg : base ≤ g) :
    Calls Try.prog 93 #[.pointer (some ⟨g, 0, none⟩), .string k, .agg #[.int .i64 x.ep, .slice x.A x.n x.c]] w (PutS base g room v ((k, x) :: l) (.tuple #[.string (⟨#[]⟩ : ByteArray), .bool false]) w) := by
  obtain ⟨i0, hi0⟩ := info171
  have I := Av.mk hi0
  clear hi0
  have HL := Av.mk (h.below (below_alloc (Below.refl _ w) (.cells #[.int .i64 x.ep, .slice x.A x.n x.c] 141)))
  have HB0 := Av.mk (Keep.alloc (Keep.refl (fun k => k = g ∨ some k = v.ownBlock) w) (.cells #[.int .i64 x.ep, .slice x.A x.n x.c] 141))
  have X := Av.mk (Blk.new w 141 #[.int .i64 x.ep, .slice x.A x.n x.c])
  have hgx : g ≠ w.heap.size := Nat.ne_of_lt h.blk.lt
  have hgx2 : w.heap.size ≠ g := hgx.symm
  have h0 := h
  clear h
  go_enter Try.func93, Try.ntmps93
  go_wp2_with fail
  generalize w.alloc (.cells #[.int .i64 x.ep, .slice x.A x.n x.c] 141) = w0 at *
  have HF := Av.mk (find_S base g room v l k w0 HL.out (by omega) n hn)
  rw [fnd_not hlt] at HF
  clear hn h0
  refine HF.out.mono ?_
  rintro e w1 ⟨rfl, hb⟩
  have HL1 := Av.mk (HL.out.below hb)
  have HB := Av.mk (HB0.out.trans (Keep.of_below (S := fun k => k = g ∨ some k = v.ownBlock) hb))
  have X1 := Av.mk (X.out.keep (Keep.of_below (S := fun _ => False) hb) (by simp))
  clear hb HF HL HB0 X
  have y0 := X1.out.cell 0
  have y1 := X1.out.cell 1
  have lx := X1.out.lt
  simp at y0 y1
  have g1 := HL1.out.blk.cell 1
  have g0 := HL1.out.blk.cell 0
  have lt1 := HL1.out.blk.lt
  have hsz : base ≤ w1.heap.size := Nat.le_trans (Nat.le_trans hbg (Nat.le_of_lt lt1)) (Nat.le_refl _)
  obtain ⟨A, c, rfl⟩ := HL1.out.shape
  simp at g1 g0
  go_wp2_with fail
  go_quiet (fail)
  have HL2 := Av.mk (HL1.out.drewN nq)
  have HB2 := Av.mk (HB.out.drewN nq)
  have lt2 : g < (w1.drewN nq).heap.size := lt1
  have hsz2 : base ≤ (w1.drewN nq).heap.size := hsz
  have g12 : (w1.drewN nq).cell? ⟨g, 1, none⟩ = _ := g1
  have g02 : (w1.drewN nq).cell? ⟨g, 0, none⟩ = _ := g0
  have x0 : (w1.drewN nq).cell? ⟨w.heap.size, 0, none⟩ = _ := y0
  have x1 : (w1.drewN nq).cell? ⟨w.heap.size, 1, none⟩ = _ := y1
  have lx2 : w.heap.size < (w1.drewN nq).heap.size := lx
  have X2 := Av.mk (X1.out.drewN nq)
  clear HL1 HB lt1 hsz g1 g0 X1 lx y0 y1
  generalize w1.drewN nq = w2 at *
  go_wp2_with (first | (at_builtin; refine wpList_app rfl _ _ 164 rfl base 171 i0 (.agg #[.string (⟨#[]⟩ : ByteArray), .int .i64 0, .slice none 0 0]) 3 48 Try.underlying164 I.out.1 I.out.2.1 I.out.2.2.1 I.out.2.2.2 rfl (by decide) _ l.length (l.flatMap csS) rfl (row_keep HL2.out.row ((Keep.refl (fun _ => False) w2).alloc _) (by simp)) ⟨w2.heap.size, 0, none⟩ 1 1 (csS ((⟨#[]⟩ : ByteArray), (⟨0, none, 0, 0⟩ : Pay))) rfl rfl (new_cells w2 (csS ((⟨#[]⟩ : ByteArray), (⟨0, none, 0, 0⟩ : Pay))) 171) (one_S' ((⟨#[]⟩ : ByteArray), (⟨0, none, 0, 0⟩ : Pay))) (by unfold maxLen; omega) (by omega) (by simp; omega) ?_; intro A2 c2 w3 hown2 hgrow2 hloc2; have HG := Av.mk (HL2.out.grow (z := ((⟨#[]⟩ : ByteArray), (⟨0, none, 0, 0⟩ : Pay))) (by decide) hgrow2 hown2 hloc2); have d1 := ((HL2.out.blk.alloc (.cells #[.string (⟨#[]⟩ : ByteArray), .int .i64 0, .slice none 0 0] 171)).grown hgrow2 (row_ne HL2.out.row HL2.out.blk (by decide))).cell 1; have df := ((HL2.out.blk.alloc (.cells #[.string (⟨#[]⟩ : ByteArray), .int .i64 0, .slice none 0 0] 171)).grown hgrow2 (row_ne HL2.out.row HL2.out.blk (by decide))).frozen 1; have lt3 := ((HL2.out.blk.alloc (.cells #[.string (⟨#[]⟩ : ByteArray), .int .i64 0, .slice none 0 0] 171)).grown hgrow2 (row_ne HL2.out.row HL2.out.blk (by decide))).lt; have X3 := Av.mk ((X2.out.alloc (.cells #[.string (⟨#[]⟩ : ByteArray), .int .i64 0, .slice none 0 0] 171)).grown hgrow2 (row_ne HL2.out.row X2.out (by decide))); have q0 := X3.out.cell 0; have q1 := X3.out.cell 1; have lx3 := X3.out.lt; simp at d1 q0 q1; clear hown2 hgrow2 hloc2))
  have e1 : (l ++ [((⟨#[]⟩ : ByteArray), (⟨0, none, 0, 0⟩ : Pay))]).length = l.length + 1 := by simp
  refine (first_S base g room _ (l ++ [((⟨#[]⟩ : ByteArray), (⟨0, none, 0, 0⟩ : Pay))]) (k, x) l.length _ HG.out.1 (by rw [e1]; omega) (by rw [e1]; omega)).mono ?_
  rintro e w4 ⟨rfl, h4, k4⟩
  have e2 : (l ++ [((⟨#[]⟩ : ByteArray), (⟨0, none, 0, 0⟩ : Pay))]).eraseIdx l.length = l := by simp [List.eraseIdx_append_of_length_le]
  rw [e2] at h4
  have HL4 := Av.mk h4
  have HK := Av.mk (show Keep (fun k => k = g ∨ some k = (Value.slice A l.length c).ownBlock) w w4 from (HB2.out.trans HG.out.2.1).andThen k4 (fun i hi hs => .inr (HG.out.2.2 i hs.symm (Nat.lt_of_lt_of_le hi HB2.out.size))))
  have HO := Av.mk (show Loc (.slice A l.length c) (.slice A2 (l.length + 1) c2) w from fun k hk hlt => HG.out.2.2 k hk (Nat.lt_of_lt_of_le hlt HB2.out.size))
  clear h4 k4
  go_wp2
  go_ret2
  exact ⟨rfl, _, HL4.out, HK.out, HO.out⟩
end Go.Proofs.Ytiopmehaghcpfaa.L
