/- The contracts of socageref13 (lists of pairs), socageref01.Same, and lru.Cache[string, int].Keys. -/
import Derived.Test.YtiopmehaghcpfaaSpk
import Derived.Test.YtiopmehaghcpfaaKeepsP
namespace Go.Proofs.Ytiopmehaghcpfaa
open Go.RowKit Go.Maps
attribute [local go_sem ↓] run_max_int run_min_int

abbrev Pairs (w : World) (base : Nat) (v : Value) (l : List (ByteArray × Int)) : Prop := w.ownsRow base 47 2 v l.length (l.flatMap csS)
theorem Pairs.shape1 {w : World} {base : Nat} {v : Value} {l : List (ByteArray × Int)} (h : Pairs w base v l) (hl : 0 < l.length) : ∃ r c, v = .slice (some ⟨r, 0, none⟩) l.length c ∧ r < w.heap.size ∧ base ≤ r ∧ l.length ≤ c := by
  rcases h.2 with ⟨rfl, h0⟩ | ⟨r, cap, cur, rfl, hb, hh, hc, _⟩
  · omega
  · exact ⟨r, cap, rfl, (Array.getElem?_eq_some_iff.1 hh).1, hb, hc⟩
theorem Pairs.cell {w : World} {base r cap : Nat} {l : List (ByteArray × Int)} (h : Pairs w base (.slice (some ⟨r, 0, none⟩) l.length cap) l) (i : Nat) (hi : i < l.length) (j : Nat) (hj : j < 2) : w.cell? ⟨r, i * 2 + j, none⟩ = (csS l[i])[j]? := by
  rw [h.cellAt _ (by omega), flat_get csS 2 csS_len l i j hi hj]
theorem row_below {w w' : World} {base e size n : Nat} {v : Value} {xs : List Value} (h : w.ownsRow base e size v n xs) (hb : Below w.heap.size w w') : w'.ownsRow base e size v n xs :=
  row_keep (S := fun _ => False) h (Keep.of_below hb) (by simp)

set_option maxHeartbeats 1000000 in
theorem Find13 (base : Nat) (v : Value) (l : List (ByteArray × Int)) (k : ByteArray) (w : World) (h : Pairs w base v l) (hl : l.length < 1000000) (n : Nat) (hn : n = keyAt k l) :
    Calls Try.prog 29 #[v, .string k] w (Same (.int .i64 (fnd n l.length)) w) := by
  have Hnot : ∀ i, i < n → ∀ hl : i < l.length, Av (l[i].1 ≠ k) := by subst hn; exact fun i hi hl => Av.mk (keyAt_not k l i hi hl)
  have Hhit : ∀ hl : n < l.length, Av (l[n].1 = k) := by subst hn; exact fun hl => Av.mk (keyAt_hit k l hl)
  have hle : n ≤ l.length := by subst hn; exact keyAt_le k l
  clear hn
  have HL := Av.mk h
  obtain ⟨A, c, rfl⟩ := own_slice h
  clear h
  go_enter Try.func29, Try.ntmps29
  go_wp2_with fail
  go_loop [5] (fun i => ∃ j : Nat, j ≤ n ∧ j ≤ l.length ∧ i = .int .i64 j) (fun i => l.length - (intOf i).toNat)
  case atStart => exact ⟨0, Nat.zero_le _, Nat.zero_le _, rfl⟩
  case round =>
    obtain ⟨j, hj, hjl, rfl⟩ := hrel
    by_cases hlt : j < l.length
    · obtain ⟨r, c2, e, hr, _, hc⟩ := Pairs.shape1 HL.out (by omega)
      cases e
      have c0 : w.cell? ⟨r, j * 2, none⟩ = some (.string l[j].1) := Pairs.cell HL.out j hlt 0 (by omega)
      by_cases hjn : j = n
      · subst hjn
        have ht : (l[j].1.toList == k.toList) = true := eqB_yes (Hhit hlt).out
        rw [fnd_hit hlt]
        clear Hhit Hnot
        go_wp2_with fail
        go_ret
        exact ⟨rfl, rfl⟩
      · have ht : (l[j].1.toList == k.toList) = false := eqB_not (Hnot j (by omega) hlt).out
        go_wp2_with fail
        go_round
        case rel => exact ⟨j + 1, by omega, by omega, by go_num⟩
        case measure => simp [intOf]; omega
    · obtain rfl : j = l.length := by omega
      go_wp2
      go_ret
      exact ⟨by rw [fnd_not (by omega)]; rfl, rfl⟩

def NewRow (p : World → Value → Prop) (w : World) (e : Ending) (w' : World) : Prop := ∃ v', e = .returned v' ∧ p w' v' ∧ Below w.heap.size w w'

theorem info47 : ∃ i, Try.prog.info? 47 = some i ∧ i.zero = some (.agg #[.string (⟨#[]⟩ : ByteArray), .int .i64 0]) ∧ i.size = 2 ∧ i.bytes = 24 := by
  have h : (Try.prog.info? 47).map (fun i => (i.zero, i.size, i.bytes)) = some (some (.agg #[.string (⟨#[]⟩ : ByteArray), .int .i64 0]), 2, 24) := by kernel_rfl
  obtain ⟨i, hi, e⟩ := Option.map_eq_some_iff.1 h
  simp only [Prod.mk.injEq] at e
  exact ⟨i, hi, e.1, e.2.1, e.2.2⟩
theorem info9 : ∃ i, Try.prog.info? 9 = some i ∧ i.zero = some (.string (⟨#[]⟩ : ByteArray)) ∧ i.size = 1 ∧ i.bytes = 16 := by
  have h : (Try.prog.info? 9).map (fun i => (i.zero, i.size, i.bytes)) = some (some (.string (⟨#[]⟩ : ByteArray)), 1, 16) := by kernel_rfl
  obtain ⟨i, hi, e⟩ := Option.map_eq_some_iff.1 h
  simp only [Prod.mk.injEq] at e
  exact ⟨i, hi, e.1, e.2.1, e.2.2⟩

/-- A new row of one element. -/
theorem row_new (w : World) (e size : Nat) (cs : List Value) (hs : cs.length = size) : (w.alloc (.cells cs.toArray e)).ownsRow w.heap.size e size (.slice (some ⟨w.heap.size, 0, none⟩) 1 1) 1 cs := by
  refine ⟨by omega, .inr ⟨w.heap.size, 1, cs.toArray, rfl, Nat.le_refl _, heap_alloc_new w _, Nat.le_refl _, by unfold maxLen; omega, by simp [hs], by simp [← hs]⟩⟩

theorem row_mono {w : World} {base base' e size n : Nat} {v : Value} {xs : List Value} (h : w.ownsRow base e size v n xs) (hb : base' ≤ base) : w.ownsRow base' e size v n xs := by
  obtain ⟨hl, hr⟩ := h
  refine ⟨hl, ?_⟩
  rcases hr with hr | ⟨r, cap, cur, rfl, hbr, r'⟩
  · exact .inl hr
  · exact .inr ⟨r, cap, cur, rfl, Nat.le_trans hb hbr, r'⟩
theorem csS_one (x : ByteArray × Int) : ∀ u ∈ csS x, u.oneCell' = true := one_S' x
theorem filter_take (l : List (ByteArray × Int)) (k : ByteArray) (j : Nat) (hj : j < l.length) : (l.take (j + 1)).filter (fun p => decide (p.1 ≠ k)) = (l.take j).filter (fun p => decide (p.1 ≠ k)) ++ (if l[j].1 = k then [] else [l[j]]) := by
  rw [List.take_succ_eq_append_getElem hj, List.filter_append]
  by_cases h : l[j].1 = k <;> simp [h]

set_option maxRecDepth 100000 in
set_option maxHeartbeats 1000000 in
theorem Use13 (base : Nat) (v : Value) (l : List (ByteArray × Int)) (x : ByteArray × Int) (w : World) (h : Pairs w base v l) (hl : l.length < 1000000) :
    Calls Try.prog 30 #[v, .agg #[.string x.1, .int .i64 x.2]] w (NewRow (fun w' v' => Pairs w' w.heap.size v' (x :: l.filter (fun p => decide (p.1 ≠ x.1)))) w) := by
  obtain ⟨i0, hi0⟩ := info47
  have I := Av.mk hi0
  clear hi0
  have HL := Av.mk h
  obtain ⟨A, c, rfl⟩ := own_slice h
  clear h
  go_enter Try.func30, Try.ntmps30
  go_wp2_with fail
  have B0 := Av.mk ((Blk.new w 47 #[.string x.1, .int .i64 x.2]).alloc (.cells #[.string x.1, .int .i64 x.2] 47))
  have R0 := Av.mk (show Pairs ((w.alloc (.cells #[.string x.1, .int .i64 x.2] 47)).alloc (.cells #[.string x.1, .int .i64 x.2] 47)) (w.heap.size + 1) (.slice (some ⟨w.heap.size + 1, 0, none⟩) 1 1) [x] from by
    have := row_new (w.alloc (.cells #[.string x.1, .int .i64 x.2] 47)) 47 2 (csS x) rfl
    simpa [csS, Pairs] using this)
  have HB := Av.mk (below_alloc (below_alloc (Below.refl _ w) (.cells #[.string x.1, .int .i64 x.2] 47)) (.cells #[.string x.1, .int .i64 x.2] 47))
  generalize (w.alloc (.cells #[.string x.1, .int .i64 x.2] 47)).alloc (.cells #[.string x.1, .int .i64 x.2] 47) = w1 at *
  go_loopw [5, 6] (fun v i wr => ∃ (j : Nat), j ≤ l.length ∧ i = .int .i64 j ∧ Pairs wr (w.heap.size + 1) v (x :: (l.take j).filter (fun p => decide (p.1 ≠ x.1))) ∧ Blk wr w.heap.size 47 #[.string x.1, .int .i64 x.2] ∧ Below w.heap.size w wr) (fun _ i _ => l.length - (intOf i).toNat)
  case atStart => exact ⟨0, Nat.zero_le _, rfl, by simpa using R0.out, B0.out, HB.out⟩
  case round =>
    obtain ⟨j, hj, rfl, hr, hb, hw⟩ := hrel
    have R1 := Av.mk hr
    have B1 := Av.mk hb
    have HB1 := Av.mk hw
    clear hr hb hw
    have d0 := B1.out.cell 0
    simp at d0
    by_cases hlt : j < l.length
    · obtain ⟨r, c2, e, hr, _, hc⟩ := Pairs.shape1 HL.out (by omega)
      cases e
      have HL1 : Pairs wr base (.slice (some ⟨r, 0, none⟩) l.length c) l := row_keep (S := fun _ => False) HL.out (Keep.of_below HB1.out) (by simp)
      have c0 : wr.cell? ⟨r, j * 2, none⟩ = some (.string l[j].1) := HL1.cell j hlt 0 (by omega)
      have c1 : wr.cell? ⟨r, j * 2 + 1, none⟩ = some (.int .i64 l[j].2) := HL1.cell j hlt 1 (by omega)
      have hft := filter_take l x.1 j hlt
      clear HL1
      by_cases he : l[j].1 = x.1
      · have ht : (l[j].1.toList == x.1.toList) = true := eqB_yes he
        rw [if_pos he, List.append_nil] at hft
        go_wp2_with fail
        go_quiet (fail)
        go_wp2_with fail
        go_roundw
        case rel => exact ⟨j + 1, by omega, by go_num, by rw [hft]; exact R1.out, B1.out, below_drewN HB1.out _⟩
        case measure => simp [intOf]; omega
      · have ht : (l[j].1.toList == x.1.toList) = false := eqB_not he
        rw [if_neg he] at hft
        have hlt1 := B1.out.lt
        have hfl : (l.take j).length ≤ l.length := by simp; omega
        have hff := List.length_filter_le (fun p : ByteArray × Int => decide (p.1 ≠ x.1)) (l.take j)
        go_wp2_with fail
        go_quiet (fail)
        have R2 := Av.mk (show Pairs (wr.drewN nq) (w.heap.size + 1) u5 (x :: (l.take j).filter (fun p => decide (p.1 ≠ x.1))) from R1.out)
        have B2 := Av.mk (B1.out.drewN nq)
        have HB2 := Av.mk (below_drewN HB1.out nq)
        have c02 : (wr.drewN nq).cell? ⟨r, j * 2, none⟩ = some (.string l[j].1) := c0
        have c12 : (wr.drewN nq).cell? ⟨r, j * 2 + 1, none⟩ = some (.int .i64 l[j].2) := c1
        have hlt2 : w.heap.size < (wr.drewN nq).heap.size := hlt1
        clear R1 B1 HB1 c0 c1 hlt1 d0
        generalize wr.drewN nq = w2 at *
        go_wp2_with (first | (at_builtin; refine wpList_app rfl _ _ 43 rfl (w.heap.size + 1) 47 i0 (.agg #[.string (⟨#[]⟩ : ByteArray), .int .i64 0]) 2 24 Try.underlying43 I.out.1 I.out.2.1 I.out.2.2.1 I.out.2.2.2 rfl (by decide) u5 _ _ rfl (row_keep R2.out ((Keep.refl (fun _ => False) w2).alloc _) (by simp)) ⟨w2.heap.size, 0, none⟩ 1 1 (csS l[j]) rfl rfl (new_cells w2 (csS l[j]) 47) (csS_one l[j]) (by unfold maxLen; simp only [List.length_cons]; omega) (by simp only [List.length_cons]; omega) (by simp; omega) ?_; intro A2 c2 w3 hown2 hgrow2 hloc2; have HO := Av.mk hown2; have HG := Av.mk hgrow2; clear hown2 hgrow2 hloc2))
        have hnr : ∀ i, some i = u5.ownBlock → w.heap.size + 1 ≤ i := fun i hi => row_ge R2.out hi.symm
        have B3 := Av.mk ((B2.out.alloc (.cells #[.string l[j].1, .int .i64 l[j].2] 47)).grown HG.out (fun e => by have := hnr _ e; omega))
        have HB3 := Av.mk ((below_alloc HB2.out (.cells #[.string l[j].1, .int .i64 l[j].2] 47)).grown HG.out (by simp; omega) (fun i e => by have := hnr i e.symm; omega))
        go_roundw
        case rel =>
          refine ⟨j + 1, by omega, by go_num, ?_, B3.out, HB3.out⟩
          have := HO.out
          rw [hft]
          simpa [Pairs, csS] using this
        case measure => simp [intOf]; omega
    · obtain rfl : j = l.length := by omega
      go_wp2
      go_ret
      refine ⟨_, rfl, ?_, HB1.out⟩
      have := R1.out
      rw [List.take_length] at this
      exact row_mono this (by omega)

/-- What Put of the reference hands back. -/
def PutRef (l : List (ByteArray × Int)) (gone : ByteArray) (is : Bool) (w : World) (e : Ending) (w' : World) : Prop :=
  ∃ v', e = .returned (.tuple #[v', .string gone, .bool is]) ∧ Pairs w' w.heap.size v' l ∧ Below w.heap.size w w'

theorem row_shorter {w : World} {base e size n m r cap : Nat} {xs : List Value} (h : w.ownsRow base e size (.slice (some ⟨r, 0, none⟩) n cap) n xs) (hm : m ≤ n) : w.ownsRow base e size (.slice (some ⟨r, 0, none⟩) m cap) m (xs.take (m * size)) := by
  obtain ⟨hl, hr⟩ := h
  have := Nat.mul_le_mul_right size hm
  refine ⟨by rw [List.length_take, hl]; omega, ?_⟩
  rcases hr with ⟨hr, _⟩ | ⟨r', cap', cur, hv, hb, hh, hnc, hcm, hcs, htk⟩
  · simp at hr
  · simp only [Value.slice.injEq, Option.some.injEq, Addr.mk.injEq, and_true, true_and] at hv
    obtain ⟨rfl, rfl⟩ := hv
    refine .inr ⟨r, cap, cur, rfl, hb, hh, by omega, hcm, hcs, ?_⟩
    rw [← htk, List.take_take, Nat.min_eq_left this]

theorem below_then {B : Nat} {w w1 w2 : World} (h : Below B w w1) (hB : B ≤ w1.heap.size) (k : Below w1.heap.size w1 w2) : Below B w w2 :=
  h.trans ⟨k.os, k.tape, k.output, k.size, fun i hi => k.block i (Nat.lt_of_lt_of_le hi hB)⟩

set_option maxRecDepth 100000 in
set_option maxHeartbeats 1000000 in
theorem Put13_fits (base : Nat) (v : Value) (l : List (ByteArray × Int)) (room : Int) (x : ByteArray × Int) (w : World) (h : Pairs w base v l) (hl : l.length < 900000) (hr : ((x :: l.filter (fun p => decide (p.1 ≠ x.1))).length : Int) ≤ room) :
    Calls Try.prog 31 #[v, .int .i64 room, .agg #[.string x.1, .int .i64 x.2]] w (PutRef (x :: l.filter (fun p => decide (p.1 ≠ x.1))) ⟨#[]⟩ false w) := by
  have HL := Av.mk h
  obtain ⟨A, c, rfl⟩ := own_slice h
  have hU := Av.mk (Use13 base _ l x (w.alloc (.cells #[.string x.1, .int .i64 x.2] 47)) (row_below h (below_alloc (Below.refl _ w) _)) (by omega))
  clear h
  generalize (x :: l.filter (fun p => decide (p.1 ≠ x.1))) = out at *
  go_enter Try.func31, Try.ntmps31
  go_wp2_with fail
  refine hU.out.mono ?_
  rintro e w1 ⟨v', rfl, hp, hb⟩
  have HP := Av.mk hp
  have HB := Av.mk (below_then (below_alloc (Below.refl _ w) (.cells #[.string x.1, .int .i64 x.2] 47)) (by simp) hb)
  obtain ⟨A2, c2, rfl⟩ := own_slice hp
  clear hp hb
  go_wp2
  refine bodyPost_ret (v := .tuple #[.slice A2 out.length c2, .string ⟨#[]⟩, .bool false]) (by simp [results, Try.results31, go_sem]) rfl ?_
  exact ⟨_, rfl, row_mono HP.out (by simp), HB.out⟩

set_option maxRecDepth 100000 in
set_option maxHeartbeats 1000000 in
theorem Put13_full (base : Nat) (v : Value) (l : List (ByteArray × Int)) (room : Int) (x : ByteArray × Int) (w : World) (h : Pairs w base v l) (hl : l.length < 900000) (out : List (ByteArray × Int)) (hout : out = x :: l.filter (fun p => decide (p.1 ≠ x.1))) (m : Nat) (hm : out.length = m + 1) (hr : room < (m + 1 : Nat)) :
    Calls Try.prog 31 #[v, .int .i64 room, .agg #[.string x.1, .int .i64 x.2]] w (PutRef (out.take m) (out[m]'(by omega)).1 true w) := by
  have HL := Av.mk h
  obtain ⟨A, c, rfl⟩ := own_slice h
  have hU := Av.mk (Use13 base _ l x (w.alloc (.cells #[.string x.1, .int .i64 x.2] 47)) (row_below h (below_alloc (Below.refl _ w) _)) (by omega))
  clear h
  rw [← hout] at hU
  have hmo : out.length < 1000000 := by
    have := List.length_filter_le (fun p : ByteArray × Int => decide (p.1 ≠ x.1)) l
    rw [hout, List.length_cons]
    omega
  clear hout
  go_enter Try.func31, Try.ntmps31
  go_wp2_with fail
  refine hU.out.mono ?_
  rintro e w1 ⟨v', rfl, hp, hb⟩
  have HP := Av.mk hp
  have HB := Av.mk (below_then (below_alloc (Below.refl _ w) (.cells #[.string x.1, .int .i64 x.2] 47)) (by simp) hb)
  obtain ⟨r, c2, rfl, hrw, _, hc2⟩ := Pairs.shape1 hp (by omega)
  clear hp hb
  have hmlt : m < out.length := by omega
  have c0 : w1.cell? ⟨r, m * 2, none⟩ = some (.string out[m].1) := Pairs.cell HP.out m hmlt 0 (by omega)
  go_wp2_with fail
  refine bodyPost_ret (v := .tuple #[.slice (some ⟨r, 0, none⟩) m c2, .string out[m].1, .bool true]) (by simp [results, Try.results31, go_sem]) rfl ?_
  refine ⟨_, rfl, ?_, HB.out⟩
  have := row_shorter HP.out (show m ≤ out.length by omega)
  rw [flat_take csS 2 csS_len] at this
  refine row_mono (base := (w.alloc (.cells #[.string x.1, .int .i64 x.2] 47)).heap.size) ?_ (by simp)
  have e : (out.take m).length = m := by simp; omega
  rw [e]
  exact this

abbrev Strs (w : World) (base : Nat) (v : Value) (l : List ByteArray) : Prop := w.ownsRow base 9 1 v l.length (l.map Value.string)
theorem Strs.cell {w : World} {base r cap : Nat} {l : List ByteArray} (h : Strs w base (.slice (some ⟨r, 0, none⟩) l.length cap) l) (i : Nat) (hi : i < l.length) : w.cell? ⟨r, i, none⟩ = some (.string l[i]) := by
  rw [h.cellAt _ (by omega)]
  simp [hi]
theorem Strs.shape1 {w : World} {base : Nat} {v : Value} {l : List ByteArray} (h : Strs w base v l) (hl : 0 < l.length) : ∃ r c, v = .slice (some ⟨r, 0, none⟩) l.length c ∧ r < w.heap.size ∧ base ≤ r ∧ l.length ≤ c := by
  rcases h.2 with ⟨rfl, h0⟩ | ⟨r, cap, cur, rfl, hb, hh, hc, _⟩
  · omega
  · exact ⟨r, cap, rfl, (Array.getElem?_eq_some_iff.1 hh).1, hb, hc⟩

set_option maxHeartbeats 1000000 in
theorem Same01 (b1 b2 : Nat) (v1 v2 : Value) (l : List ByteArray) (w : World) (h1 : Strs w b1 v1 l) (h2 : Strs w b2 v2 l) (hl : l.length < 1000000) :
    Calls Try.prog 32 #[v1, v2] w (RetB (.bool true) w) := by
  have H1 := Av.mk h1
  have H2 := Av.mk h2
  obtain ⟨A1, c1, rfl⟩ := own_slice h1
  obtain ⟨A2, c2, rfl⟩ := own_slice h2
  clear h1 h2
  go_enter Try.func32, Try.ntmps32
  go_wp2_with fail
  go_loopw [5] (fun i wr => ∃ j : Nat, j ≤ l.length ∧ i = .int .i64 j ∧ Below w.heap.size w wr) (fun i _ => l.length - (intOf i).toNat)
  case atStart => exact ⟨0, Nat.zero_le _, rfl, Below.refl _ _⟩
  case round =>
    obtain ⟨j, hj, rfl, hb⟩ := hrel
    have HB := Av.mk hb
    clear hb
    by_cases hlt : j < l.length
    · obtain ⟨r1, d1, e1, hr1, _, hc1⟩ := Strs.shape1 H1.out (by omega)
      cases e1
      obtain ⟨r2, d2, e2, hr2, _, hc2⟩ := Strs.shape1 H2.out (by omega)
      cases e2
      have x1 : wr.cell? ⟨r1, j, none⟩ = some (.string l[j]) := Strs.cell (row_below H1.out HB.out) j hlt
      have x2 : wr.cell? ⟨r2, j, none⟩ = some (.string l[j]) := Strs.cell (row_below H2.out HB.out) j hlt
      go_wp2_with fail
      go_quiet (fail)
      go_wp2_with fail
      go_roundw
      case rel => exact ⟨j + 1, by omega, by go_num, below_drewN HB.out _⟩
      case measure => simp [intOf]; omega
    · obtain rfl : j = l.length := by omega
      go_wp2
      go_ret
      exact ⟨rfl, HB.out⟩

set_option maxRecDepth 100000 in
set_option maxHeartbeats 1000000 in
theorem keys_S (base g : Nat) (room : Int) (v : Value) (l : List (ByteArray × Int)) (w : World) (h : LruS w base g room v l) (hl : l.length < 1000000) :
    Calls Try.prog 33 #[.pointer (some ⟨g, 0, none⟩)] w (NewRow (fun w' v' => Strs w' w.heap.size v' (l.map (·.1))) w) := by
  obtain ⟨i0, hi0⟩ := info9
  have I := Av.mk hi0
  clear hi0
  have HL := Av.mk h
  have g1 := h.blk.cell 1
  have lt := h.blk.lt
  obtain ⟨A, c, rfl⟩ := h.shape
  simp at g1
  clear h
  go_enter Try.func33, Try.ntmps33
  go_wp2_with (first | (at_make; refine wpList_make_own _ rfl _ _ 32 rfl w.heap.size 9 i0 (.string ⟨#[]⟩) 1 Try.underlying32 I.out.1 I.out.2.1 I.out.2.2.1 _ _ _ l.length rfl rfl rfl (by rw [I.out.2.2.2]; omega) (by unfold maxLen; omega) (Nat.le_refl _) ?_; intro w1 hown1 hgrow1; have HO := Av.mk hown1; have HG := Av.mk hgrow1; have HL1 := Av.mk (HL.out.keep ((Keep.refl (fun _ => False) w).grown hgrow1 (by simp)) (by simp) (by simp)); have g2 := HL1.out.blk.cell 1; have lt2 := HL1.out.blk.lt; simp at g2; clear hown1 hgrow1))
  have HB := Av.mk ((Below.refl w.heap.size w).grown HG.out (Nat.le_refl _) (by simp))
  go_loopw [3, 17] (fun v i wr => ∃ j : Nat, j ≤ l.length ∧ i = .int .i64 j ∧ Strs wr w.heap.size v ((l.take j).map (·.1)) ∧ Below w.heap.size w wr) (fun _ i _ => l.length - (intOf i).toNat)
  case atStart => exact ⟨0, Nat.zero_le _, rfl, by simpa [Strs] using HO.out, HB.out⟩
  case round =>
    obtain ⟨j, hj, rfl, hs, hb⟩ := hrel
    have HS := Av.mk hs
    have HB2 := Av.mk hb
    obtain ⟨A3, c3, hv3⟩ := own_slice hs
    clear hs hb
    by_cases hlt : j < l.length
    · obtain ⟨r, c2, e, hgr, hr, hc⟩ := HL.out.shape1 (by omega) (by decide)
      cases e
      have HC := HL.out.below HB2.out
      have c0 : wr.cell? ⟨r, j * 2, none⟩ = some (.string l[j].1) := HC.cell csS_len j hlt 0 (by omega)
      have c1 : wr.cell? ⟨r, j * 2 + 1, none⟩ = some (.int .i64 l[j].2) := HC.cell csS_len j hlt 1 (by omega)
      have hz := HB2.out.size
      clear HC
      go_wp2_with (first | (at_builtin; refine wpList_app rfl _ _ 32 rfl w.heap.size 9 i0 (.string ⟨#[]⟩) 1 16 Try.underlying32 I.out.1 I.out.2.1 I.out.2.2.1 I.out.2.2.2 rfl (by decide) u3 _ _ rfl (row_keep HS.out (((Keep.refl (fun _ => False) wr).alloc (.cells #[.string l[j].1, .int .i64 l[j].2] 131)).alloc (.cells #[.string l[j].1] 9)) (by simp)) ⟨wr.heap.size + 1, 0, none⟩ 1 1 [.string l[j].1] rfl rfl (by have := new_cells (wr.alloc (.cells #[.string l[j].1, .int .i64 l[j].2] 131)) [.string l[j].1] 9; simpa using this) (by simp [Value.oneCell']) (by unfold maxLen; simp; omega) (by simp; omega) (by simp; omega) ?_; intro A2 c2 w3 hown2 hgrow2 hloc2; have HO3 := Av.mk hown2; have HG3 := Av.mk hgrow2; clear hown2 hgrow2 hloc2))
      have hnr : ∀ i, u3.ownBlock = some i → w.heap.size ≤ i := fun i hi => row_ge HS.out hi
      have HB3 := Av.mk ((below_alloc (below_alloc HB2.out (.cells #[.string l[j].1, .int .i64 l[j].2] 131)) (.cells #[.string l[j].1] 9)).grown HG3.out (by simp; omega) hnr)
      go_roundw
      case rel =>
        refine ⟨j + 1, by omega, by go_num, ?_, HB3.out⟩
        have := HO3.out
        have e : (l.take (j + 1)).map (·.1) = (l.take j).map (·.1) ++ [l[j].1] := by rw [List.take_succ_eq_append_getElem hlt, List.map_append]; rfl
        have e2 : (l.take j).length = j := by simp; omega
        rw [e]
        simpa [Strs, e2, Nat.min_eq_left hj] using this
      case measure => simp [intOf]; omega
    · obtain rfl : j = l.length := by omega
      go_wp2
      go_ret
      refine ⟨_, rfl, ?_, HB2.out⟩
      have := HS.out
      rw [List.take_length] at this
      exact this
end Go.Proofs.Ytiopmehaghcpfaa
