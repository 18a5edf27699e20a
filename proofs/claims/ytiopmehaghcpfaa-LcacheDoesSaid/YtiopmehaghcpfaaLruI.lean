/- The contracts of lru.Cache[int, int]. -/
import Derived.Test.YtiopmehaghcpfaaLruP
import Derived.Test.YtiopmehaghcpfaaProg
namespace Go.Proofs.Ytiopmehaghcpfaa
open Go.RowKit Go.Maps
attribute [local go_sem ↓] run_max_int run_min_int

def csI (p : Int × Int) : List Value := [.int .i64 p.1, .int .i64 p.2]
theorem csI_len (p : Int × Int) : (csI p).length = 2 := rfl
abbrev LruI (w : World) (base g : Nat) (room : Int) (v : Value) (l : List (Int × Int)) : Prop := LruW 121 123 2 csI w base g room v l
def RetB (v : Value) (w : World) (e : Ending) (w' : World) : Prop := e = .returned v ∧ Below w.heap.size w w'
def Same (v : Value) (w : World) (e : Ending) (w' : World) : Prop := e = .returned v ∧ w = w'

set_option maxHeartbeats 1000000 in
theorem find_I (base g : Nat) (room : Int) (v : Value) (l : List (Int × Int)) (k : Int) (w : World) (h : LruI w base g room v l) (hl : l.length < 1000000) (n : Nat) (hn : n = keyAt k l) :
    Calls Try.prog 66 #[.pointer (some ⟨g, 0, none⟩), .int .i64 k] w (RetB (.int .i64 (fnd n l.length)) w) := by
  have Hnot : ∀ i, i < n → ∀ hl : i < l.length, Av (l[i].1 ≠ k) := by subst hn; exact fun i hi hl => Av.mk (keyAt_not k l i hi hl)
  have Hhit : ∀ hl : n < l.length, Av (l[n].1 = k) := by subst hn; exact fun hl => Av.mk (keyAt_hit k l hl)
  have hle : n ≤ l.length := by subst hn; exact keyAt_le k l
  clear hn
  have HL := Av.mk h
  have cell := h.blk.cell
  have frozen := h.blk.frozen
  have lt := h.blk.lt
  obtain ⟨A, c, rfl⟩ := h.shape
  clear h
  go_enter Try.func66, Try.ntmps66
  go_wp2_with fail
  go_loopw [12] (fun i wr => ∃ j : Nat, j ≤ n ∧ j ≤ l.length ∧ i = .int .i64 j ∧ Below w.heap.size w wr) (fun i _ => l.length - (intOf i).toNat)
  case atStart => exact ⟨0, Nat.zero_le _, Nat.zero_le _, rfl, Below.refl _ _⟩
  case round =>
    obtain ⟨j, hj, hjl, rfl, hb⟩ := hrel
    have HB := Av.mk hb
    clear hb
    by_cases hlt : j < l.length
    · obtain ⟨r, c2, e, hgr, hr, hc⟩ := HL.out.shape1 (by omega) (by decide)
      cases e
      have HC := HL.out.below HB.out
      have c0 : wr.cell? ⟨r, j * 2, none⟩ = some (.int .i64 l[j].1) := HC.cell csI_len j hlt 0 (by omega)
      have c1 : wr.cell? ⟨r, j * 2 + 1, none⟩ = some (.int .i64 l[j].2) := HC.cell csI_len j hlt 1 (by omega)
      clear HC
      by_cases hjn : j = n
      · subst hjn
        have ht : l[j].1 = k := (Hhit hlt).out
        rw [fnd_hit hlt]
        clear Hhit Hnot
        go_wp2_with fail
        go_ret
        exact ⟨rfl, below_alloc HB.out _⟩
      · have ht : ¬ l[j].1 = k := (Hnot j (by omega) hlt).out
        go_wp2_with fail
        go_roundw
        case rel => exact ⟨j + 1, by omega, by omega, by go_num, below_alloc HB.out _⟩
        case measure => simp [intOf]; omega
    · obtain rfl : j = l.length := by omega
      go_wp2
      go_ret
      exact ⟨by rw [fnd_not (by omega)]; rfl, HB.out⟩

theorem one_I (l : List (Int × Int)) : ∀ v ∈ l.flatMap csI, v.oneCell' = true := by
  intro v hv
  obtain ⟨x, _, hx⟩ := List.mem_flatMap.1 hv
  simp [csI] at hx
  rcases hx with rfl | rfl <;> rfl

theorem one_I' (x : Int × Int) : ∀ v ∈ (#[.int .i64 x.1, .int .i64 x.2] : Array Value).toList, v.oneCell' = true := by
  intro v hv
  simp at hv
  rcases hv with rfl | rfl <;> rfl

def FirstI (base g : Nat) (room : Int) (v : Value) (l : List (Int × Int)) (w : World) (e : Ending) (w' : World) : Prop :=
  e = .returned (.tuple #[]) ∧ LruI w' base g room v l ∧ Keep (fun k => some k = v.ownBlock) w w'

set_option maxRecDepth 100000 in
set_option maxHeartbeats 1000000 in
theorem first_I (base g : Nat) (room : Int) (v : Value) (l : List (Int × Int)) (x : Int × Int) (at_ : Nat) (w : World) (h : LruI w base g room v l) (hl : l.length < 1000000) (hat : at_ < l.length) :
    Calls Try.prog 67 #[.pointer (some ⟨g, 0, none⟩), .agg #[.int .i64 x.1, .int .i64 x.2], .int .i64 at_] w (FirstI base g room v (x :: l.eraseIdx at_) w) := by
  obtain ⟨r, c, rfl, hgr, hr, hc⟩ := h.shape1 (by omega) (by decide)
  have HL := Av.mk h
  clear h
  go_enter Try.func67, Try.ntmps67
  go_upto_region 1 with (fail)
  have hb0 := Keep.alloc (Keep.refl (fun k => some k = (Value.slice (some ⟨r, 0, none⟩) l.length c).ownBlock) w) (.cells #[.int .i64 x.1, .int .i64 x.2] 123)
  have b0 := Blk.new w 123 #[.int .i64 x.1, .int .i64 x.2]
  have HL1 := Av.mk (HL.out.keep (Keep.alloc (Keep.refl (fun _ => False) w) (.cells #[.int .i64 x.1, .int .i64 x.2] 123)) (by simp) (by simp))
  have lt0 : w.heap.size < (w.alloc (.cells #[.int .i64 x.1, .int .i64 x.2] 123)).heap.size := b0.lt
  have hne : w.heap.size ≠ r := by omega
  clear HL
  have HB := Av.mk hb0
  clear hb0
  generalize w.alloc _ = w1 at *
  have c1 := HL1.out.blk.cell 1
  have d0 := b0.cell 0
  have d1 := b0.cell 1
  have lt1 := HL1.out.blk.lt
  simp at c1 d0 d1
  have B0 := Av.mk b0
  clear b0
  refine wp_tail 13 (by kernel_rfl) (by kernel_rfl) ?_
  simp only [List.take_succ_cons, List.take_zero, List.drop_succ_cons, List.drop_zero]
  have hw : IntKind.i64.wrap ((at_ : Int) + 1) = (at_ : Int) + 1 := wrapI (by omega) (by omega)
  iterate 6 (refine wpStill_step (fun K hK => ?_); go_simp; refine hK _ ?_; clear hK K)
  refine wpStill_step (fun K hK => ?_)
  go_simp
  rw [if_pos (by omega), if_pos (by omega)]
  refine ⟨rfl, hK _ ?_⟩
  clear hK K
  obtain ⟨dp, hdp⟩ : ∃ dp, dp = (if c = 1 then some (⟨r, 0, none⟩ : Addr) else some ⟨r, 2, none⟩) := ⟨_, rfl⟩
  rw [← hdp]
  have HD : Av (0 < at_ → dp = some ⟨r, 2, none⟩) := ⟨fun _ => by rw [hdp, if_neg (by omega)]⟩
  clear hdp
  iterate 5 (refine wpStill_step (fun K hK => ?_); go_simp; refine hK _ ?_; clear hK K)
  refine wpStill_step (fun K hK => ?_)
  go_simp
  rw [if_pos (by omega)]
  refine ⟨rfl, hK _ ?_⟩
  clear hK K
  refine wpStill_nil ?_
  go_simp
  refine wpList_copy_on rfl (.tmp 12) (.tmp 18) 119 119 rfl 123 (by kernel_rfl) 2 (by kernel_rfl) dp (some ⟨r, 0, none⟩) at_ (c - 1) c rfl rfl base r l.length c (l.flatMap csI) (show w1.drew.ownsRow base 123 2 _ _ _ from HL1.out.row) hat (fun h => ⟨HD.out h, rfl⟩) ?_ ?_
  · exact one_I l
  intro w2 hr2 hk2
  have HG2 := Av.mk (HL1.out.blk.drew.keep hk2 hgr)
  have HX2 := Av.mk (B0.out.drew.keep hk2 hne)
  have HK2 := Av.mk (HB.out.drew.trans (hk2.mono (fun k _ (e : k = r) => (by subst e; rfl : some k = (Value.slice (some ⟨r, 0, none⟩) l.length c).ownBlock))))
  have HR2 := Av.mk hr2
  clear hr2 hk2 HB B0 c1 d0 d1 HD
  have c1 := HG2.out.cell 1
  have d0 := HX2.out.cell 0
  have d1 := HX2.out.cell 1
  simp at c1 d0 d1
  go_upto_region 2 with (fail)
  refine wp_tail 6 (by kernel_rfl) (by kernel_rfl) ?_
  simp only [List.take_succ_cons, List.take_zero, List.drop_succ_cons, List.drop_zero]
  iterate 5 (refine wpStill_step (fun K hK => ?_); go_simp; refine hK _ ?_; clear hK K)
  refine wpStill_step (fun K hK => ?_)
  go_simp
  rw [if_pos (by omega)]
  refine ⟨rfl, hK _ ?_⟩
  clear hK K
  refine wpStill_nil ?_
  go_simp
  refine wpList_lay rfl 123 (.tmp 25) (.tmp 24) rfl base r l.length c 0 123 2 _ #[.int .i64 x.1, .int .i64 x.2] rfl rfl (by kernel_rfl) (show w2.drew.ownsRow base 123 2 _ _ _ from HR2.out) (by simp; omega) (one_I' x) ?_
  intro w3 hr3 hk3
  have HL3 := Av.mk (show LruI w3 base g room (.slice (some ⟨r, 0, none⟩) l.length c) (x :: l.eraseIdx at_) from
    ⟨HG2.out.drew.keep hk3 hgr, by
      have e : (x :: l.eraseIdx at_).length = l.length := by simp [List.length_eraseIdx, hat]; omega
      rw [e, ← first_cells csI 2 csI_len l x at_ hat]
      exact hr3⟩)
  have HK3 := Av.mk (HK2.out.drew.trans (hk3.mono (fun k _ (e : k = r) => (by subst e; rfl : some k = (Value.slice (some ⟨r, 0, none⟩) l.length c).ownBlock))))
  clear hr3 hk3 HG2 HX2 HK2 HR2 HL1
  go_wp2
  refine bodyPost_ret (v := .tuple #[]) (by simp [results, Try.results67, go_sem]) rfl ?_
  exact ⟨rfl, HL3.out, HK3.out⟩

theorem len_I (base g : Nat) (room : Int) (v : Value) (l : List (Int × Int)) (w : World) (h : LruI w base g room v l) : Calls Try.prog 17 #[.pointer (some ⟨g, 0, none⟩)] w (Same (.int .i64 l.length) w) := by
  have c1 := h.blk.cell 1
  have lt := h.blk.lt
  obtain ⟨A, c, rfl⟩ := h.shape
  simp at c1
  clear h
  go_enter Try.func17, Try.ntmps17
  go_wp2
  go_ret
  exact ⟨rfl, rfl⟩

def NewI (room : Int) (w : World) (e : Ending) (w' : World) : Prop :=
  e = .returned (.pointer (some ⟨w.heap.size, 0, none⟩)) ∧ LruI w' w.heap.size w.heap.size (mx room 1) (.slice none 0 0) [] ∧ Below w.heap.size w w'
theorem new_I (room : Int) (w : World) : Calls Try.prog 14 #[.int .i64 room] w (NewI room w) := by
  go_enter Try.func14, Try.ntmps14
  go_wp2
  go_ret
  exact ⟨rfl, ⟨Blk.new w 121 #[.int .i64 (mx room 1), .slice none 0 0], rfl, .inl ⟨rfl, rfl⟩⟩, (Below.refl _ w).alloc (Nat.le_refl _) _⟩

def PutI (base g : Nat) (room : Int) (v : Value) (l : List (Int × Int)) (res : Value) (w : World) (e : Ending) (w' : World) : Prop :=
  e = .returned res ∧ ∃ v', LruI w' base g room v' l ∧ Keep (fun k => k = g ∨ some k = v.ownBlock) w w' ∧ Loc v v' w

set_option maxHeartbeats 1000000 in
theorem put_hit_I (base g : Nat) (room : Int) (v : Value) (l : List (Int × Int)) (k x : Int) (w : World) (h : LruI w base g room v l) (hl : l.length < 1000000) (n : Nat) (hn : n = keyAt k l) (hlt : n < l.length) :
    Calls Try.prog 15 #[.pointer (some ⟨g, 0, none⟩), .int .i64 k, .int .i64 x] w (PutI base g room v ((k, x) :: l.eraseIdx n) (.tuple #[.int .i64 0, .bool false]) w) := by
  have HL := Av.mk h
  have HF := Av.mk (find_I base g room v l k w h hl n hn)
  rw [fnd_hit hlt] at HF
  clear hn h
  go_enter Try.func15, Try.ntmps15
  go_wp2_with fail
  refine HF.out.mono ?_
  rintro e w1 ⟨rfl, hb⟩
  have HL1 := Av.mk (HL.out.below hb)
  have HB := Av.mk (Keep.of_below (S := fun k => k = g ∨ some k = v.ownBlock) hb)
  clear hb HF
  go_wp2_with fail
  refine (first_I base g room v l (k, x) n w1 HL1.out hl hlt).mono ?_
  rintro e w2 ⟨rfl, h2, k2⟩
  have HL2 := Av.mk h2
  have HK := Av.mk (HB.out.trans (k2.mono (fun _ _ h => .inr h)))
  clear h2 k2
  go_wp2
  go_ret2
  exact ⟨rfl, v, HL2.out, HK.out, fun _ h _ => h.symm⟩

def GetI (base g : Nat) (room : Int) (v : Value) (l : List (Int × Int)) (res : Value) (w : World) (e : Ending) (w' : World) : Prop :=
  e = .returned res ∧ LruI w' base g room v l ∧ Keep (fun k => some k = v.ownBlock) w w'

set_option maxHeartbeats 1000000 in
theorem get_not_I (base g : Nat) (room : Int) (v : Value) (l : List (Int × Int)) (k : Int) (w : World) (h : LruI w base g room v l) (hl : l.length < 1000000) (n : Nat) (hn : n = keyAt k l) (hlt : ¬ n < l.length) :
    Calls Try.prog 16 #[.pointer (some ⟨g, 0, none⟩), .int .i64 k] w (GetI base g room v l (.tuple #[.int .i64 0, .bool false]) w) := by
  have HL := Av.mk h
  have HF := Av.mk (find_I base g room v l k w h hl n hn)
  rw [fnd_not hlt] at HF
  clear hn h
  go_enter Try.func16, Try.ntmps16
  go_wp2_with fail
  refine HF.out.mono ?_
  rintro e w1 ⟨rfl, hb⟩
  have HL1 := Av.mk (HL.out.below hb)
  have HB := Av.mk (Keep.of_below (S := fun k => some k = v.ownBlock) hb)
  clear hb HF
  go_wp2
  go_ret2
  exact ⟨rfl, HL1.out, HB.out⟩

set_option maxHeartbeats 1000000 in
theorem get_hit_I (base g : Nat) (room : Int) (v : Value) (l : List (Int × Int)) (k : Int) (w : World) (h : LruI w base g room v l) (hl : l.length < 1000000) (n : Nat) (hn : n = keyAt k l) (hlt : n < l.length) :
    Calls Try.prog 16 #[.pointer (some ⟨g, 0, none⟩), .int .i64 k] w (GetI base g room v (l[n] :: l.eraseIdx n) (.tuple #[.int .i64 l[n].2, .bool true]) w) := by
  have HL := Av.mk h
  have HF := Av.mk (find_I base g room v l k w h hl n hn)
  rw [fnd_hit hlt] at HF
  clear hn
  obtain ⟨r, c, rfl, hgr, hr, hc⟩ := h.shape1 (by omega) (by decide)
  clear h
  go_enter Try.func16, Try.ntmps16
  go_wp2_with fail
  refine HF.out.mono ?_
  rintro e w1 ⟨rfl, hb⟩
  have HL1 := Av.mk (HL.out.below hb)
  have HB := Av.mk (Keep.of_below (S := fun k => some k = (Value.slice (some ⟨r, 0, none⟩) l.length c).ownBlock) hb)
  clear hb HF
  have g1 := HL1.out.blk.cell 1
  have lt1 := HL1.out.blk.lt
  simp at g1
  have c0 : w1.cell? ⟨r, n * 2, none⟩ = some (.int .i64 l[n].1) := HL1.out.cell csI_len n hlt 0 (by omega)
  have c1 : w1.cell? ⟨r, n * 2 + 1, none⟩ = some (.int .i64 l[n].2) := HL1.out.cell csI_len n hlt 1 (by omega)
  go_wp2_with fail
  have B0 := Blk.new w1 123 #[.int .i64 l[n].1, .int .i64 l[n].2]
  have HL2 := Av.mk (HL1.out.keep (Keep.alloc (Keep.refl (fun _ => False) w1) (.cells #[.int .i64 l[n].1, .int .i64 l[n].2] 123)) (by simp) (by simp))
  have HB2 := Av.mk (HB.out.alloc (.cells #[.int .i64 l[n].1, .int .i64 l[n].2] 123))
  have hne : w1.heap.size ≠ r := by have := HB.out.size; omega
  clear HB HL1 g1 lt1 c0 c1
  generalize w1.alloc (.cells #[.int .i64 l[n].1, .int .i64 l[n].2] 123) = w2 at *
  have HX := Av.mk B0
  clear B0
  refine (first_I base g room _ l l[n] n w2 HL2.out hl hlt).mono ?_
  rintro e w3 ⟨rfl, h3, k3⟩
  have HL3 := Av.mk h3
  have HX3 := Av.mk (HX.out.keep k3 (by intro e; apply hne; simpa [Value.ownBlock] using e))
  have HK := Av.mk (HB2.out.trans k3)
  clear h3 k3
  have d1 := HX3.out.cell 1
  simp at d1
  go_wp2
  go_ret2
  exact ⟨rfl, HL3.out, HK.out⟩

set_option maxHeartbeats 1000000 in
theorem put_evict_I (base g : Nat) (room : Int) (v : Value) (l : List (Int × Int)) (k x : Int) (w : World) (h : LruI w base g room v l) (hl : l.length < 1000000) (n : Nat) (hn : n = keyAt k l) (hlt : ¬ n < l.length) (hr : room ≤ l.length) (h0 : 0 < l.length) :
    Calls Try.prog 15 #[.pointer (some ⟨g, 0, none⟩), .int .i64 k, .int .i64 x] w (PutI base g room v ((k, x) :: l.eraseIdx (l.length - 1)) (.tuple #[.int .i64 (l[l.length - 1]'(by omega)).1, .bool true]) w) := by
  have HL := Av.mk h
  have HF := Av.mk (find_I base g room v l k w h hl n hn)
  rw [fnd_not hlt] at HF
  clear hn
  obtain ⟨r, c, rfl, hgr, hr2, hc⟩ := h.shape1 (by omega) (by decide)
  clear h
  go_enter Try.func15, Try.ntmps15
  go_wp2_with fail
  refine HF.out.mono ?_
  rintro e w1 ⟨rfl, hb⟩
  have HL1 := Av.mk (HL.out.below hb)
  have HB := Av.mk (Keep.of_below (S := fun k => k = g ∨ some k = (Value.slice (some ⟨r, 0, none⟩) l.length c).ownBlock) hb)
  clear hb HF
  have g1 := HL1.out.blk.cell 1
  have g0 := HL1.out.blk.cell 0
  have lt1 := HL1.out.blk.lt
  simp at g1 g0
  obtain ⟨m, hm⟩ : ∃ m, l.length = m + 1 := ⟨l.length - 1, by omega⟩
  have hm1 : m < l.length := by omega
  have c0 : w1.cell? ⟨r, m * 2, none⟩ = some (.int .i64 l[m].1) := HL1.out.cell csI_len m hm1 0 (by omega)
  go_wp2_with fail
  go_quiet (fail)
  go_wp2_with fail
  have e1 : l.length - 1 = m := by omega
  refine (first_I base g room _ l (k, x) m (w1.drewN nq) (HL1.out.drewN nq) hl hm1).mono ?_
  rintro e w2 ⟨rfl, h2, k2⟩
  have HL2 := Av.mk h2
  have HK := Av.mk ((HB.out.drewN nq).trans (k2.mono (fun _ _ h => .inr h)))
  clear h2 k2
  go_wp2
  go_ret2
  simp only [e1]
  exact ⟨rfl, _, HL2.out, HK.out, fun _ h _ => h.symm⟩

theorem info123 : ∃ i, Try.prog.info? 123 = some i ∧ i.zero = some (.agg #[.int .i64 0, .int .i64 0]) ∧ i.size = 2 ∧ i.bytes = 16 := by
  have h : (Try.prog.info? 123).map (fun i => (i.zero, i.size, i.bytes)) = some (some (.agg #[.int .i64 0, .int .i64 0]), 2, 16) := by kernel_rfl
  obtain ⟨i, hi, e⟩ := Option.map_eq_some_iff.1 h
  simp only [Prod.mk.injEq] at e
  exact ⟨i, hi, e.1, e.2.1, e.2.2⟩
theorem new_cells (w : World) (cs : List Value) (t : TypeId) : ∀ j u, cs[j]? = some u → (w.alloc (.cells cs.toArray t)).cell? ((⟨w.heap.size, 0, none⟩ : Addr).add j) = some u := by
  intro j u hj
  have e : (⟨w.heap.size, 0, none⟩ : Addr).add j = ⟨w.heap.size, j, none⟩ := by unfold Addr.add; split <;> simp_all
  rw [e, (Blk.new w t cs.toArray).cell j]
  simpa using hj

set_option maxHeartbeats 1000000 in
theorem put_room_I (base g : Nat) (room : Int) (v : Value) (l : List (Int × Int)) (k x : Int) (w : World) (h : LruI w base g room v l) (hl : l.length < 900000) (n : Nat) (hn : n = keyAt k l) (hlt : ¬ n < l.length) (hr : (l.length : Int) < room) (hbg : base ≤ g) :
    Calls Try.prog 15 #[.pointer (some ⟨g, 0, none⟩), .int .i64 k, .int .i64 x] w (PutI base g room v ((k, x) :: l) (.tuple #[.int .i64 0, .bool false]) w) := by
  obtain ⟨i0, hi0⟩ := info123
  have I := Av.mk hi0
  clear hi0
  have HL := Av.mk h
  have HF := Av.mk (find_I base g room v l k w h (by omega) n hn)
  rw [fnd_not hlt] at HF
  clear hn h
  go_enter Try.func15, Try.ntmps15
  go_wp2_with fail
  refine HF.out.mono ?_
  rintro e w1 ⟨rfl, hb⟩
  have HL1 := Av.mk (HL.out.below hb)
  have HB := Av.mk (Keep.of_below (S := fun k => k = g ∨ some k = v.ownBlock) hb)
  clear hb HF
  have g1 := HL1.out.blk.cell 1
  have g0 := HL1.out.blk.cell 0
  have lt1 := HL1.out.blk.lt
  have hsz := Nat.le_trans (Nat.le_trans hbg (Nat.le_of_lt lt1)) (Nat.le_refl _)
  obtain ⟨A, c, rfl⟩ := HL1.out.shape
  simp at g1 g0
  go_wp2_with fail
  go_quiet (fail)
  have HL2 := Av.mk (HL1.out.drewN nq)
  have HB2 := Av.mk (HB.out.drewN nq)
  have lt2 : g < (w1.drewN nq).heap.size := lt1
  have hsz2 : base ≤ (w1.drewN nq).heap.size := hsz
  have g12 : (w1.drewN nq).cell? ⟨g, 1, none⟩ = _ := g1
  have g02 : (w1.drewN nq).cell? ⟨g, 0, none⟩ = _ := g0
  clear HL1 HB lt1 hsz g1 g0
  generalize w1.drewN nq = w2 at *
  go_wp2_with (first | (at_builtin; refine wpList_app rfl _ _ 119 rfl base 123 i0 (.agg #[.int .i64 0, .int .i64 0]) 2 16 Try.underlying119 I.out.1 I.out.2.1 I.out.2.2.1 I.out.2.2.2 rfl (by decide) _ l.length (l.flatMap csI) rfl (row_keep HL2.out.row ((Keep.refl (fun _ => False) w2).alloc _) (by simp)) ⟨w2.heap.size, 0, none⟩ 1 1 (csI (0, 0)) rfl rfl (new_cells w2 (csI (0, 0)) 123) (one_I' (0, 0)) (by unfold maxLen; omega) (by omega) (by simp; omega) ?_; intro A2 c2 w3 hown2 hgrow2 hloc2; have HG := Av.mk (HL2.out.grow (z := ((0, 0) : Int × Int)) (by decide) hgrow2 hown2 hloc2); have d1 := ((HL2.out.blk.alloc (.cells #[.int .i64 0, .int .i64 0] 123)).grown hgrow2 (row_ne HL2.out.row HL2.out.blk (by decide))).cell 1; have df := ((HL2.out.blk.alloc (.cells #[.int .i64 0, .int .i64 0] 123)).grown hgrow2 (row_ne HL2.out.row HL2.out.blk (by decide))).frozen 1; have lt3 := ((HL2.out.blk.alloc (.cells #[.int .i64 0, .int .i64 0] 123)).grown hgrow2 (row_ne HL2.out.row HL2.out.blk (by decide))).lt; simp at d1; clear hown2 hgrow2 hloc2))
  have e1 : (l ++ [((0, 0) : Int × Int)]).length = l.length + 1 := by simp
  refine (first_I base g room _ (l ++ [(0, 0)]) (k, x) l.length _ HG.out.1 (by rw [e1]; omega) (by rw [e1]; omega)).mono ?_
  rintro e w4 ⟨rfl, h4, k4⟩
  have e2 : (l ++ [((0, 0) : Int × Int)]).eraseIdx l.length = l := by simp [List.eraseIdx_append_of_length_le]
  rw [e2] at h4
  have HL4 := Av.mk h4
  have HK := Av.mk (show Keep (fun k => k = g ∨ some k = (Value.slice A l.length c).ownBlock) w w4 from (HB2.out.trans HG.out.2.1).andThen k4 (fun i hi hs => .inr (HG.out.2.2 i hs.symm (Nat.lt_of_lt_of_le hi HB2.out.size))))
  have HO := Av.mk (show Loc (.slice A l.length c) (.slice A2 (l.length + 1) c2) w from fun k hk hlt => HG.out.2.2 k hk (Nat.lt_of_lt_of_le hlt HB2.out.size))
  clear h4 k4
  go_wp2
  go_ret2
  exact ⟨rfl, _, HL4.out, HK.out, HO.out⟩
end Go.Proofs.Ytiopmehaghcpfaa
