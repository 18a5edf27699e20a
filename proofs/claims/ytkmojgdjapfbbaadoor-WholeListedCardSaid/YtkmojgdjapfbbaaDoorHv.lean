/- What is seen by the names that are listed, plainly. -/
import Derived.Test.YtkmojgdjapfbbaaDoorHg
import Derived.Test.YtkmojgdjapfbbaaDoorLow
namespace Go.Proofs.YtkmojgdjapfbbaaDoor
open Go.RowKit Go.Maps
set_option linter.unusedSimpArgs false
set_option linter.unusedVariables false

theorem seenL_keep (S : List (List Ino)) (s : ByteArray) : ∀ (P : List (Nat × Nat)) (f : Fd), f.kind ≠ 0 → seenL S s P f = f
  | [], f, _ => rfl
  | p :: P, f, h => by
    rw [seenL]
    cases S[p.1]? with
    | none => exact seenL_keep S s P f h
    | some xs =>
      simp only
      cases lookI xs p.2 s with
      | none => exact seenL_keep S s P f h
      | some k =>
        simp only
        by_cases h2 : (inoAt xs k).kind = 2
        · rw [if_pos h2, if_neg h]
          split
          · rfl
          · exact seenL_keep S s P f h
        · rw [if_neg h2, if_neg (fun e => h e.1)]
theorem seenL_skip (S : List (List Ino)) (s : ByteArray) (P2 : List (Nat × Nat)) (f : Fd) : ∀ P1 : List (Nat × Nat), (∀ p ∈ P1, ∀ xs, S[p.1]? = some xs → lookI xs p.2 s = none) → seenL S s (P1 ++ P2) f = seenL S s P2 f
  | [], _ => rfl
  | p :: P1, h => by
    rw [List.cons_append, seenL]
    have ih := seenL_skip S s P2 f P1 (fun q hq => h q (List.mem_cons_of_mem _ hq))
    cases hs : S[p.1]? with
    | none => exact ih
    | some xs =>
      simp only
      rw [h p (List.mem_cons_self ..) xs hs]
      exact ih
theorem lookL_mem : ∀ (ns : List ByteArray) (is : List Nat) (s : ByteArray) (k : Nat), lookL ns is s = some k → k ∈ is
  | [], is, s, k, h => by cases is <;> cases h
  | n :: ns, [], s, k, h => by cases h
  | n :: ns, i :: is, s, k, h => by
    rw [lookL] at h
    split at h
    · injection h with h
      rw [h]
      exact List.mem_cons_self ..
    · exact List.mem_cons_of_mem _ (lookL_mem ns is s k h)
/-- The first row that has a name says what is seen by it. -/
theorem seen_item {ms : List Mt} (hok : Oks ms) {P : List (Nat × Nat)} {s : ByteArray} {r : Nat} {p : Nat × Nat} {m : Mt} (hp : P[r]? = some p) (hm : ms[p.1]? = some m) (hs : s ∈ rowN ms p) (hfirst : ∀ (i : Nat) (q : Nat × Nat), i < r → P[i]? = some q → s ∉ rowN ms q)
    (hk0 : ∀ k, lookI m.xs p.2 s = some k → (inoAt m.xs k).kind ≠ 0) :
    ∃ k, kindN ms P (s, r) ≠ 0 ∧ seenL (ms.map Mt.xs) s P Fd.zero = if kindN ms P (s, r) = 4 then Fd.zero else ⟨kindN ms P (s, r), p.1, k⟩ := by
  have hok1 := hok m (List.mem_of_getElem? hm) p.2
  have hrow : rowN ms p = (inoAt m.xs p.2).names := by unfold rowN; rw [hm]
  rw [hrow] at hs
  obtain ⟨j, hj⟩ := List.getElem?_of_mem hs
  have hjl := (List.getElem?_eq_some_iff.1 hj).1
  obtain ⟨k, hk⟩ : ∃ k, (inoAt m.xs p.2).ids[j]? = some k := ⟨_, List.getElem?_eq_getElem (by rw [← hok1.2.1]; exact hjl)⟩
  have hlook : lookI m.xs p.2 s = some k := lookL_some _ _ _ j k hok1.1 hj hk
  have hkind : kindN ms P (s, r) = (inoAt m.xs k).kind := by
    unfold kindN
    rw [hp]
    simp only
    rw [hm]
    simp only
    rw [hlook]
    rfl
  have hne := hk0 k hlook
  rw [hkind]
  refine ⟨k, hne, ?_⟩
  have hsp : P = P.take r ++ p :: P.drop (r + 1) := by
    conv => lhs; rw [← List.take_append_drop r P]
    rw [drop_at hp]
  rw [hsp, seenL_skip]
  · rw [seenL, List.getElem?_map, hm]
    simp only [Option.map_some]
    rw [hlook]
    simp only
    by_cases h2 : (inoAt m.xs k).kind = 2
    · have e4 : ¬ (inoAt m.xs k).kind = 4 := by rw [h2]; decide
      rw [if_pos h2, if_pos (show Fd.zero.kind = 0 from rfl), if_neg e4, h2]
      split
      · rfl
      · exact seenL_keep _ _ _ _ (by show (2 : Int) ≠ 0; decide)
    · rw [if_neg h2]
      by_cases h4 : (inoAt m.xs k).kind = 4
      · rw [if_neg (fun e => e.2 h4), if_pos h4]
      · rw [if_pos ⟨rfl, h4⟩, if_neg h4]
  · intro q hq xs hxs
    obtain ⟨i, hi⟩ := List.getElem?_of_mem hq
    have hir := (List.getElem?_eq_some_iff.1 hi).1
    rw [List.length_take] at hir
    rw [List.getElem?_take_of_lt (by omega)] at hi
    have hnot := hfirst i q (by omega) hi
    rw [List.getElem?_map] at hxs
    cases hmq : ms[q.1]? with
    | none => rw [hmq] at hxs; cases hxs
    | some mq =>
      rw [hmq] at hxs
      injection hxs with hxs
      subst hxs
      have hrq : rowN ms q = (inoAt mq.xs q.2).names := by unfold rowN; rw [hmq]
      rw [hrq] at hnot
      exact lookL_none _ _ _ hnot
theorem one_kind {t : T} (h : t.one = true) : t.kind ≠ 0 := by
  intro e
  obtain ⟨k, o, ns, its, sz, ex, tg⟩ := t
  simp only [T.kind] at e
  subst e
  rw [T.one_node] at h
  simp at h
theorem idsL_lt : ∀ (l : List T) (n k : Nat), k ∈ T.idsL n l → k < n + T.countL l
  | [], n, k, h => by cases h
  | t :: l, n, k, h => by
    have h1 := t.count_pos
    simp only [T.countL]
    rw [T.idsL, List.mem_cons] at h
    rcases h with rfl | h
    · omega
    · have := idsL_lt l (n + t.count) k h
      omega
theorem rows_kinds (t : T) : t.all = true → ∀ n, ∀ x ∈ t.rows n, x.kind ≠ 0 ∧ ∀ k ∈ x.ids, k < n + t.count := by
  induction t using T.ind with
  | h t ih =>
    intro ha n x hx
    rw [T.all_eq, Bool.and_eq_true] at ha
    have hL : ∀ l : List T, (∀ u ∈ l, u ∈ t.items) → ∀ n, ∀ x ∈ T.rowsL n l, x.kind ≠ 0 ∧ ∀ k ∈ x.ids, k < n + T.countL l := by
      intro l
      induction l with
      | nil => intro _ n x h; simp [T.rowsL] at h
      | cons u l ih2 =>
        intro hm n x h
        simp only [T.rowsL, List.mem_append] at h
        simp only [T.countL]
        rcases h with h | h
        · obtain ⟨h1, h2⟩ := ih u (hm u (List.mem_cons_self ..)) (T.allL_mem ha.1 (hm u (List.mem_cons_self ..))) n x h
          exact ⟨h1, fun k hk => by have := h2 k hk; omega⟩
        · obtain ⟨h1, h2⟩ := ih2 (fun v hv => hm v (List.mem_cons_of_mem _ hv)) (n + u.count) x h
          exact ⟨h1, fun k hk => by have := h2 k hk; omega⟩
    rw [T.count_eq]
    have hk := one_kind ha.2
    obtain ⟨k, o, ns, its, sz, ex, tg⟩ := t
    simp only [T.rows, List.mem_cons] at hx
    simp only [T.items] at hL ⊢
    rcases hx with rfl | hx
    · exact ⟨hk, fun k hk => by have := idsL_lt its (n + 1) k hk; omega⟩
    · obtain ⟨h1, h2⟩ := hL its (fun u hu => hu) (n + 1) x hx
      exact ⟨h1, fun k hk => by have := h2 k hk; omega⟩
/-- What a directory's entry is, is something. -/
theorem kids_kind {t : T} (h : t.all = true) {i k : Nat} {s : ByteArray} (hl : lookI (t.rows 0) i s = some k) : (inoAt (t.rows 0) k).kind ≠ 0 := by
  have hmem := lookL_mem _ _ _ _ hl
  have hlen := T.rows_len t 0
  have hk : k < (t.rows 0).length := by
    rw [hlen]
    unfold inoAt at hmem
    cases hx : (t.rows 0)[i]? with
    | none => rw [hx] at hmem; cases hmem
    | some x =>
      rw [hx] at hmem
      have := (rows_kinds t h 0 x (List.mem_of_getElem? hx)).2 k hmem
      omega
  have hg := List.getElem?_eq_getElem hk
  unfold inoAt
  rw [hg]
  exact (rows_kinds t h 0 _ (List.mem_of_getElem? hg)).1
end Go.Proofs.YtkmojgdjapfbbaaDoor
namespace Go.Proofs.YtkmojgdjapfbbaaDoor
open Go.RowKit Go.Maps
set_option linter.unusedSimpArgs false
set_option linter.unusedVariables false

abbrev aR : Rws := [[aS]]
theorem aR_len : (mergeL aR 1 (startL aR)).length = 1 := by rfl
theorem aR_dn : Dn aR 1 (startL aR) := ⟨⟨by decide, by decide⟩, rfl⟩
theorem sl_newV (w : World) (v : Value) : Sl (fun _ => True) (w.alloc (.cells #[v] 23)) 1 (.slice (some ⟨w.heap.size, 0, none⟩) 1 1) 1 [v] := by
  refine ⟨rfl, .inr ⟨w.heap.size, 0, 1, rfl, Nat.le_refl _, trivial, by simp, fun i hi => ?_⟩⟩
  obtain rfl : i = 0 := by omega
  rw [(Blk.new w 23 #[v]).cell]
  rfl
theorem aR_at (w : World) : RowsAt (fun _ => True) ((w.alloc (.cells #[.string aS] 9)).alloc (.cells #[.slice (some ⟨w.heap.size, 0, none⟩) 1 1] 23)) (some ⟨(w.alloc (.cells #[.string aS] 9)).heap.size, 0, none⟩) 1 [.slice (some ⟨w.heap.size, 0, none⟩) 1 1] aR :=
  ⟨rfl, sl_newV _ _, fun i v r hv hr => by
    cases i with
    | succ i => simp at hv
    | zero =>
      simp at hv hr
      subst hv
      subst hr
      exact ((sl_new w aS).mono (fun _ _ => trivial)).grow (below_alloc (Below.refl _ _) _)⟩
theorem aR_merge (w : World) : Calls Tryd.prog 30 #[.slice (some ⟨w.heap.size + 1, 0, none⟩) 1 1] ((w.alloc (.cells #[.string aS] 9)).alloc (.cells #[.slice (some ⟨w.heap.size, 0, none⟩) 1 1] 23)) (fun e w' => ∃ A c, e = .returned (.slice A 1 c) ∧ Bel w w') := by
  have h := merge_calls (aR_at w) (by decide) (by decide) 1 (by decide) aR_dn
  have hz : (w.alloc (.cells #[.string aS] 9)).heap.size = w.heap.size + 1 := by simp
  rw [hz] at h
  have hal := aR_len
  generalize mergeL aR 1 (startL aR) = RA at h hal
  refine Calls.mono h ?_
  rintro e w1 ⟨A1, c1, rfl, _, hb1⟩
  have hbA : Bel w ((w.alloc (.cells #[.string aS] 9)).alloc (.cells #[.slice (some ⟨w.heap.size, 0, none⟩) 1 1] 23)) := below_alloc (below_alloc (Below.refl _ w) _) _
  exact ⟨A1, c1, by rw [hal], below_then hbA (Below.size hbA) hb1⟩
theorem manyL_le {R : Rws} {b : Nat} (h : ∀ r ∈ R, r.length ≤ b) : ∀ k, manyL R k ≤ b * k
  | 0 => Nat.le_refl _
  | k + 1 => by
    have ih := manyL_le h k
    have h1 : (R.getD k []).length ≤ b := by
      rw [List.getD_eq_getElem?_getD]
      cases hr : R[k]? with
      | none => exact Nat.zero_le _
      | some r => exact h r (List.mem_of_getElem? hr)
    rw [manyL, Nat.mul_succ]
    omega
/-- What the branches of a stack are. -/
def Kin (ms : List Mt) : Prop := ∀ m ∈ ms, ∃ t : T, m.xs = t.rows 0 ∧ t.all = true ∧ t.wt ≤ 400 ∧ NmS t
/-- The places of a stack's roots. -/
structure Plc (ms : List Mt) (P : List (Nat × Nat)) : Prop where
  len : P.length ≤ 8
  lv : ∀ p ∈ P, p.1 < ms.length
  root : ∀ p ∈ P, p.2 = 0
theorem Plc.of {ms : List Mt} (h8 : ms.length ≤ 8) : Plc ms (rootP (rootN (ms.map Mt.xs))) := by
  have h1 := rootN_le (ms.map Mt.xs)
  rw [List.length_map] at h1
  refine ⟨by rw [rootP_len]; omega, fun p hp => ?_, fun p hp => ?_⟩ <;>
  · obtain ⟨k, hk, rfl⟩ := List.mem_map.1 hp
    have := List.mem_range.1 hk
    first | rfl | (simp only; omega)
theorem Plc.row {ms : List Mt} {P : List (Nat × Nat)} (h : Plc ms P) (hk : Kin ms) {p : Nat × Nat} (hp : p ∈ P) : ∃ (m : Mt) (t : T), ms[p.1]? = some m ∧ m ∈ ms ∧ m.xs = t.rows 0 ∧ t.all = true ∧ rowN ms p = t.names ∧ t.names.length ≤ 400 ∧ ∀ s ∈ t.names, s.size ≤ 1000000000 := by
  have hlt := h.lv p hp
  obtain ⟨m, hm⟩ : ∃ m, ms[p.1]? = some m := ⟨_, List.getElem?_eq_getElem hlt⟩
  obtain ⟨t, h1, h2, h3, h4⟩ := hk m (List.mem_of_getElem? hm)
  refine ⟨m, t, hm, List.mem_of_getElem? hm, h1, h2, ?_, ?_, ?_⟩
  · unfold rowN
    rw [hm]
    simp only
    rw [h.root p hp, h1]
    cases t
    rfl
  · have := T.wt_eq t
    omega
  · cases h4 with
    | mk t hs hr => exact hs
theorem Plc.rise {ms : List Mt} {P : List (Nat × Nat)} (h : Plc ms P) (hk : Kin ms) (ho : Oks ms) : Rise (P.map (rowN ms)) := fun i r hi => by
  rw [List.getElem?_map] at hi
  cases hp : P[i]? with
  | none => rw [hp] at hi; cases hi
  | some p =>
    rw [hp] at hi
    injection hi with hi
    subst hi
    obtain ⟨m, t, hm, hmm, _⟩ := h.row hk (List.mem_of_getElem? hp)
    have h1 := (ho m hmm p.2).1
    unfold rowN
    rw [hm]
    exact h1
theorem Plc.many {ms : List Mt} {P : List (Nat × Nat)} (h : Plc ms P) (hk : Kin ms) : manyL (P.map (rowN ms)) (P.map (rowN ms)).length ≤ 100000 := by
  have h1 := manyL_le (R := P.map (rowN ms)) (b := 400) (fun r hr => by
    obtain ⟨p, hp, rfl⟩ := List.mem_map.1 hr
    obtain ⟨m, t, _, _, _, _, h2, h3, _⟩ := h.row hk hp
    rw [h2]
    exact h3) (P.map (rowN ms)).length
  have h2 := h.len
  rw [List.length_map] at h1 ⊢
  omega
theorem entsL_sub (ms : List Mt) (P : List (Nat × Nat)) : ∀ l : List (ByteArray × Nat), List.Sublist ((entsL ms P l).map (·.1)) (l.map (·.1))
  | [] => List.Sublist.refl _
  | x :: l => by
    rw [entsL]
    split
    · exact (entsL_sub ms P l).cons _
    · exact (entsL_sub ms P l).cons_cons _
theorem Rising.sub {a b : List ByteArray} (h : List.Sublist a b) (hb : Rising b) : Rising a := by
  have h1 : b.Pairwise (fun x y => ltS x y = true) := List.pairwise_iff_getElem.2 (fun i j hi hj hij => hb i j _ _ hij (List.getElem?_eq_getElem hi) (List.getElem?_eq_getElem hj))
  have h2 := h1.sublist h
  intro i j x y hij hx hy
  obtain ⟨hi, rfl⟩ := List.getElem?_eq_some_iff.1 hx
  obtain ⟨hj, rfl⟩ := List.getElem?_eq_some_iff.1 hy
  exact List.pairwise_iff_getElem.1 h2 i j hi hj hij
set_option maxRecDepth 100000 in
set_option maxHeartbeats 1000000 in
theorem Listed_calls {w : World} {A : Option Addr} {c : Nat} {l : List T} (h : RepL (Lt w) w (.slice A l.length c) l) (hz : ∀ t ∈ l, Sz t) : Calls Tryd.prog 6 #[.slice A l.length c] w (RetB (.bool true) w) := by
  have HI := Av.mk h
  have HZ := Av.mk hz
  have HMY := Av.mk (fun W (hW : Bel w W) => may_calls (HI.out.lt hW) HZ.out)
  have HMA := Av.mk (aR_merge w)
  clear h hz
  go_enter Tryd.func6, Tryd.ntmps6
  go_wp2_with fail
  refine HMA.out.mono ?_
  rintro e w1 ⟨A1, c1, rfl, hb1⟩
  have HB1 : Av (Bel w w1) := ⟨hb1⟩
  clear hb1 HMA
  go_wp2_with fail
  refine (one_top w1).mono ?_
  rintro e w2 ⟨rfl, hb2⟩
  have HB2 : Av (Bel w w2) := ⟨below_then HB1.out (Below.size HB1.out) hb2⟩
  clear hb2 HB1
  by_cases hm : l.length ≤ 8 ∧ okL l = true
  case neg =>
    have HM0 : Av (Calls Tryd.prog 8 #[.slice A l.length c] w2 (RetB (.int .i64 0) w2)) := ⟨by
      have h := HMY.out w2 HB2.out
      have hv : mayI l = 0 := by unfold mayI; rw [if_neg hm]
      rwa [hv] at h⟩
    clear hm HMY
    go_wp2_with fail
    refine HM0.out.mono ?_
    rintro e w3 ⟨rfl, hb3⟩
    have HB3 : Av (Bel w w3) := ⟨below_then HB2.out (Below.size HB2.out) hb3⟩
    clear hb3
    go_wp2_with fail
    go_ret
    exact ⟨rfl, HB3.out⟩
  have HM1 : Av (Calls Tryd.prog 8 #[.slice A l.length c] w2 (RetB (.int .i64 1) w2)) := ⟨by
    have h := HMY.out w2 HB2.out
    have hv : mayI l = 1 := by unfold mayI; rw [if_pos hm]
    rwa [hv] at h⟩
  obtain ⟨hl8, hok⟩ := hm
  have HOK := Av.mk hok
  clear HMY hok
  go_wp2_with fail
  refine HM1.out.mono ?_
  rintro e w3 ⟨rfl, hb3⟩
  have HB3 : Av (Bel w w3) := ⟨below_then HB2.out (Below.size HB2.out) hb3⟩
  clear hb3 HM1 HB2
  have HST := Av.mk (stack_calls (HI.out.lt HB3.out) HZ.out hl8 HOK.out)
  go_wp2_with fail
  refine HST.out.mono ?_
  rintro e w4 ⟨As, cs, ms, rfl, hst, hml, hmap, hb4⟩
  have hB4 : Bel w w4 := below_then HB3.out (Below.size HB3.out) hb4
  have hba := below_alloc (Below.refl _ w4) (.cells #[.slice As l.length cs, .int .i64 (l.length : Int)] 28)
  have G5 := Av.mk (Blk.new w4 28 #[.slice As l.length cs, .int .i64 (l.length : Int)])
  have S5 := Av.mk (hst.grow hba)
  have HB5 : Av (Bel w (w4.alloc (.cells #[.slice As l.length cs, .int .i64 (l.length : Int)] 28))) := ⟨below_then hB4 (Below.size hB4) hba⟩
  have OKS := Av.mk (oks_of hmap HZ.out HOK.out)
  have hkids : Kin ms := fun m hm => by
    have h1 : mtKey m ∈ stk l := by rw [← hmap]; exact List.mem_map.2 ⟨m, hm, rfl⟩
    obtain ⟨t, ht, e⟩ := stk_mem h1
    have h2 := List.all_eq_true.1 HOK.out t ht
    unfold T.ok at h2
    rw [Bool.and_eq_true] at h2
    have h3 := T.may_right (HZ.out t ht) h2.1 h2.2
    have h4 := T.ok_all (HZ.out t ht) (List.all_eq_true.1 HOK.out t ht)
    exact ⟨t, e, h4.1, h3.2.1, h3.2.2⟩
  have hpl := Plc.of (ms := ms) (by omega)
  have HKD := Av.mk hkids
  have HML := Av.mk hml
  clear hst hml hmap hb4 hB4 hba HB3 HST hkids
  go_upto_region 9 with (fail)
  generalize w4.alloc (.cells #[.slice As l.length cs, .int .i64 (l.length : Int)] 28) = w5 at *
  generalize w4.heap.size = g5 at *
  have HR15 : Av (Calls Tryd.prog 15 #[.agg #[.slice As l.length cs, .int .i64 (l.length : Int)]] w5 (PlaceP (rootP (rootN (ms.map Mt.xs))) w5)) := ⟨by
    have h := root_calls S5.out (l.length : Int) (by have := HML.out; omega)
    rw [HML.out] at h
    exact h⟩
  obtain ⟨P, hP⟩ : ∃ P, rootP (rootN (ms.map Mt.xs)) = P := ⟨_, rfl⟩
  rw [hP] at HR15 hpl
  have HPL := Av.mk hpl
  have hp8 := hpl.len
  have HPP := Av.mk hP
  clear hP hpl
  have x0 := G5.out.cell 0; have x1 := G5.out.cell 1
  have lg := G5.out.lt
  simp at x0 x1
  go_wp2_with fail
  refine HR15.out.mono ?_
  rintro e w6 ⟨Ap, cp, rfl, hpa, hb6⟩
  have PA := Av.mk hpa
  have B6 : Av (Bel w w6) := ⟨below_then HB5.out (Below.size HB5.out) hb6⟩
  have G6 := Av.mk (G5.out.keep (Keep.of_below (S := fun _ => False) hb6) (by simp))
  have S6 := Av.mk (S5.out.grow hb6)
  clear hpa hb6 G5 S5 HB5 HR15 x0 x1 lg
  go_wp2_with fail
  obtain ⟨i23, hi23⟩ : ∃ i, Tryd.prog.info? 23 = some i ∧ i.zero = some (.slice none 0 0) ∧ i.size = 1 ∧ i.bytes = 24 := by
    have h : (Tryd.prog.info? 23).map (fun i => (i.zero, i.size, i.bytes)) = some (some (.slice none 0 0), 1, 24) := by kernel_rfl
    obtain ⟨i, hi, e⟩ := Option.map_eq_some_iff.1 h
    simp only [Prod.mk.injEq] at e
    exact ⟨i, hi, e.1, e.2.1, e.2.2⟩
  have I23 := Av.mk hi23
  clear hi23
  go_loopw [7, 40] (fun s7 s40 wr => ∃ (j : Nat) (B : Option Addr) (d : Nat) (vs : List Value), j ≤ P.length ∧ s40 = .int .i64 j ∧ s7 = .slice B j d ∧ vs.length = j ∧ wr.ownsRow w6.heap.size 23 1 (.slice B j d) j vs ∧
    Av (∀ (i : Nat) (v : Value) (p : Nat × Nat), vs[i]? = some v → P[i]? = some p → Sl (fun k => w6.heap.size ≤ k ∧ (Value.slice B j d).ownBlock ≠ some k) wr 1 v (rowN ms p).length ((rowN ms p).map Value.string)) ∧ Bel w6 wr) (fun _ s40 _ => P.length - (intOf s40).toNat)
  case atStart => exact ⟨0, none, 0, [], Nat.zero_le _, rfl, rfl, rfl, ⟨rfl, .inl ⟨rfl, rfl⟩⟩, ⟨fun i v p h => by simp at h⟩, Below.refl _ _⟩
  case round =>
    obtain ⟨j, B, d, vs, hj, rfl, rfl, hvl, hrow, HSUB, hb⟩ := hrel
    have OJ := Av.mk hrow
    have BJ := Av.mk hb
    have BWJ : Av (Bel w wr) := ⟨below_then B6.out (Below.size B6.out) hb⟩
    have GJ := Av.mk (G6.out.keep (Keep.of_below (S := fun _ => False) hb) (by simp))
    clear hrow hb
    by_cases hlt : j < P.length
    · obtain ⟨⟨lv, ino⟩, hpj⟩ : ∃ p, P[j]? = some p := ⟨_, List.getElem?_eq_getElem hlt⟩
      obtain ⟨m, t, hm, hmm, hxs, hta, hrn, hn4, _⟩ := HPL.out.row HKD.out (List.mem_of_getElem? hpj)
      simp only at hm
      obtain ⟨b, off, hA, hbl, hcc, d0, d1⟩ := pl_at (PA.out.grow BJ.out) hpj
      subst hA
      simp only at d0 d1
      have hat : atR ms lv = .pointer (some ⟨m.b, 0, none⟩) := by unfold atR; rw [hm]
      have hrn2 : rowN ms (lv, ino) = (inoAt m.xs ino).names := by unfold rowN; rw [hm]
      have hbg := below_alloc (Below.refl _ wr) (.cells #[.int .i64 (lv : Int), .int .i64 (ino : Int)] 41)
      have E2 := Av.mk (Blk.new wr 41 #[.int .i64 (lv : Int), .int .i64 (ino : Int)])
      have O2 := Av.mk (OJ.out.alloc (.cells #[.int .i64 (lv : Int), .int .i64 (ino : Int)] 41))
      have B2 : Av (Bel w6 (wr.alloc (.cells #[.int .i64 (lv : Int), .int .i64 (ino : Int)] 41))) := ⟨below_then BJ.out (Below.size BJ.out) hbg⟩
      have HSUB2 : Av (∀ (i : Nat) (v : Value) (p : Nat × Nat), vs[i]? = some v → P[i]? = some p → Sl (fun k => w6.heap.size ≤ k ∧ (Value.slice B j d).ownBlock ≠ some k) (wr.alloc (.cells #[.int .i64 (lv : Int), .int .i64 (ino : Int)] 41)) 1 v (rowN ms p).length ((rowN ms p).map Value.string)) := ⟨fun i v p h1 h2 => (HSUB.out i v p h1 h2).grow hbg⟩
      have G2 := Av.mk (GJ.out.keep (Keep.of_below (S := fun _ => False) hbg) (by simp))
      have HT31 : Av (∀ W, Bel (wr.alloc (.cells #[.int .i64 (lv : Int), .int .i64 (ino : Int)] 41)) W → Calls Tryd.prog 31 #[.agg #[.slice As l.length cs, .int .i64 (l.length : Int)], .int .i64 (lv : Int)] W (RetB (.pointer (some ⟨m.b, 0, none⟩)) W)) := ⟨fun W hW => by
        have h1 := sat_calls (S6.out.grow (below_then B2.out (Below.size B2.out) hW)) (l.length : Int) lv
        rw [hat, HML.out] at h1
        exact h1⟩
      have HT32 : Av (∀ W, Bel (wr.alloc (.cells #[.int .i64 (lv : Int), .int .i64 (ino : Int)] 41)) W → Calls Tryd.prog 32 #[.pointer (some ⟨m.b, 0, none⟩), .int .i64 (ino : Int)] W (NmsP (rowN ms (lv, ino)) W)) := ⟨fun W hW => by
        rw [hrn2]
        exact bnames_fresh ((S6.out.2 m hmm).grow (below_then B2.out (Below.size B2.out) hW)) ino (by rw [← hrn2, hrn]; omega)⟩
      have HPJ := Av.mk hpj
      have HVL := Av.mk hvl
      clear hpj hm hmm hxs hta hrn hn4 hat hrn2 hbg hvl GJ BWJ
      go_upto_region 14 with (fail)
      generalize wr.alloc (.cells #[.int .i64 (lv : Int), .int .i64 (ino : Int)] 41) = w2 at *
      generalize wr.heap.size = gx at *
      have c0 := E2.out.cell 0; have c1 := E2.out.cell 1
      have lx := E2.out.lt
      have x0 := G2.out.cell 0; have x1 := G2.out.cell 1
      have lg := G2.out.lt
      simp at c0 c1 x0 x1
      have n1 : j + 1 ≤ maxLen := by unfold maxLen; omega
      have n2 : (j + 1) * 24 ≤ 140737488355328 := by omega
      go_region_law (first
        | (go_simp
           go_at_call 32
           go_wp2_with
             (go_at_call 32
              refine (HT32.out _ Ba.out).mono ?_
              rintro e wb ⟨An, cn, rfl, hsl, hbb⟩
              have Bb : Av (Bel w2 wb) := ⟨below_then Ba.out (Below.size Ba.out) hbb⟩
              have SLb := Av.mk (hsl.mono (B' := fun k => w2.heap.size ≤ k) (fun k hk => Nat.le_trans (Below.size Ba.out) hk))
              have Ob := Av.mk (row_keep O2.out (Keep.of_below (S := fun _ => False) Bb.out) (fun _ _ => id))
              clear hsl hbb))
        | (go_simp
           go_at_call 31
           go_wp2_with
             (go_at_call 31
              refine (HT31.out _ (bel_drew _)).mono ?_
              rintro e wa ⟨rfl, hba⟩
              have Ba : Av (Bel w2 wa) := ⟨below_then (bel_drew w2) (Below.size (bel_drew w2)) hba⟩
              have Ea := Av.mk (E2.out.keep (Keep.of_below (S := fun _ => False) Ba.out) (by simp))
              have c1' := Ea.out.cell 1
              have lx' := Ea.out.lt
              simp at c1'
              clear hba))
        | (refine step_app rfl _ _ 67 rfl w6.heap.size 23 i23 _ 1 24 Tryd.underlying67 I23.out.1 I23.out.2.1 I23.out.2.2.1 I23.out.2.2.2 (by rfl) (by decide) (.slice B j d) j _ rfl (Ob.out.alloc _) ⟨wb.heap.size, 0, none⟩ 1 1 [.slice An (rowN ms (lv, ino)).length cn] rfl rfl (new_cells wb [.slice An (rowN ms (lv, ino)).length cn] 23) (by simp [Value.oneCell']) n1 n2 (by have h1 := Below.size B2.out; have h2 := Below.size Bb.out; simp; omega) ?_
           intro A5 c5 w8 ho5 hg5 hd5
           have HO5 := Av.mk ho5
           have HG5 := Av.mk hg5
           have HD5 := Av.mk hd5
           clear ho5 hg5 hd5))
      all_goals go_wp2_with fail
      all_goals
        have hk8 : Keep (fun k => (Value.slice B j d).ownBlock = some k) wb w8 := ((Keep.refl (fun k => (Value.slice B j d).ownBlock = some k) wb).alloc _).grown HG5.out (fun k hk _ => hk)
        have hb2b : Bel w6 wb := below_then B2.out (Below.size B2.out) Bb.out
        have hB8 : Bel w6 w8 := (show Below w6.heap.size w6 wb from hb2b).trans (hk8.below (Below.size hb2b) (fun k e => row_base Ob.out k e.symm))
        have hown : ∀ k, (Value.slice B j d).ownBlock = some k → k < w2.heap.size := fun k e => row_lt O2.out k e.symm
        have hd5 := HD5.out
        rw [show (wb.alloc (.cells [Value.slice An (rowN ms (lv, ino)).length cn].toArray 23)).heap.size = wb.heap.size + 1 by simp] at hd5
        have hwb := Below.size Bb.out
        have hw26 := Below.size B2.out
        refine ⟨⟨j + 1, A5, c5, vs ++ [.slice An (rowN ms (lv, ino)).length cn], by omega, by go_num, rfl, by rw [List.length_append, HVL.out]; rfl, HO5.out, ⟨fun i v p hv hp => ?_⟩, hB8⟩, by simp [intOf]; omega⟩
        by_cases hi : i < j
        · rw [List.getElem?_append_left (by rw [HVL.out]; exact hi)] at hv
          have h1 := (((HSUB2.out i v p hv hp).grow Bb.out).bound).keep hk8 (fun k hk e => hk.1.2 e)
          refine h1.mono (fun k hk => ⟨hk.1.1, fun e => ?_⟩)
          rcases hd5 with hd | hd
          · exact hk.1.2 (hd ▸ e)
          · rw [hd] at e
            injection e with e
            have := hk.2
            omega
        · have hvi := (List.getElem?_eq_some_iff.1 hv).1
          rw [List.length_append, HVL.out] at hvi
          simp at hvi
          obtain rfl : i = j := by omega
          rw [List.getElem?_append_right (by rw [HVL.out]; exact Nat.le_refl _), HVL.out] at hv
          simp at hv
          subst hv
          rw [HPJ.out] at hp
          injection hp with hp
          subst hp
          have h1 := (SLb.out.bound).keep hk8 (fun k hk e => by have := hown k e; have := hk.1; omega)
          refine h1.mono (fun k hk => ⟨by have := hk.1; omega, fun e => ?_⟩)
          rcases hd5 with hd | hd
          · rw [hd] at e
            have := hown k e
            have := hk.1
            omega
          · rw [hd] at e
            injection e with e
            have := hk.2
            omega
    · obtain rfl : j = P.length := by omega
      have hri := HPL.out.rise HKD.out OKS.out
      have hmn := HPL.out.many HKD.out
      obtain ⟨R, hR⟩ : ∃ R, P.map (rowN ms) = R := ⟨_, rfl⟩
      have HLC : Av (∀ W, Bel w6 W → Calls Tryd.prog 33 #[.agg #[.slice As l.length cs, .int .i64 (l.length : Int)], .slice Ap P.length cp] W (ListP (entsL ms P (allN R)) W)) := ⟨fun W hW => by
        have h := list_calls (S6.out.grow hW) OKS.out (l.length : Int) (PA.out.grow hW) (by have := HPL.out.len; omega) HPL.out.lv hri hmn
        rw [HML.out, hR] at h
        exact h⟩
      rw [hR] at hri hmn
      have hRl : R.length = P.length := by rw [← hR, List.length_map]
      have hRat : ∀ (i : Nat) (r : List ByteArray), R[i]? = some r → ∃ p, P[i]? = some p ∧ rowN ms p = r := fun i r hi => by
        rw [← hR, List.getElem?_map] at hi
        cases hp : P[i]? with
        | none => rw [hp] at hi; cases hi
        | some p => rw [hp] at hi; exact ⟨p, rfl, by simpa using hi⟩
      obtain ⟨hl1, hl2, hl3⟩ := allN_law R hri
      have hst := start_law R hri
      have hF : allN R = firstL none (mergeL R (manyL R R.length) (startL R)) := rfl
      obtain ⟨N, hN⟩ : ∃ N, manyL R R.length = N := ⟨_, rfl⟩
      have HMC : Av (∀ W, Bel wr W → Calls Tryd.prog 30 #[.slice B P.length d] W (MergeP (mergeL R N (startL R)) W)) := ⟨fun W hW => by
        have hrows : RowsAt (fun _ => True) W B d vs R := by
          refine ⟨by rw [hvl, hRl], ?_, fun i v r hv hr => ?_⟩
          · rw [hRl]
            exact (Sl.of_row OJ.out (B := fun _ => True) (fun _ _ => trivial)).grow hW
          · obtain ⟨p, hp, rfl⟩ := hRat i r hr
            exact ((HSUB.out i v p hv hp).mono (fun _ _ => trivial)).grow hW
        have h := merge_calls hrows hmn (by have := HPL.out.len; omega) N (by omega) (by rw [← hN]; exact hst.1)
        rw [hRl] at h
        exact h⟩
      have hml : (mergeL R N (startL R)).length ≤ 100000 := by have := hst.2.1; rw [hN] at this; omega
      rw [hN] at hF hl3 hmn
      obtain ⟨F, hFF⟩ : ∃ F, allN R = F := ⟨_, rfl⟩
      rw [hFF] at hl1 hl2 hl3 hF HLC
      have HFC : Av (∀ W Am cm, Sl (fun _ => True) W 2 (.slice Am (mergeL R N (startL R)).length cm) (mergeL R N (startL R)).length ((mergeL R N (startL R)).flatMap itC) → Calls Tryd.prog 36 #[.slice Am (mergeL R N (startL R)).length cm] W (MergeP F W)) := ⟨fun W Am cm hW => by
        rw [hF]
        exact first_calls hW hml⟩
      generalize mergeL R N (startL R) = MG at *
      -- what is seen by each
      have HSN : Av (∀ x ∈ F, ∃ (q : Nat × Nat) (k : Nat), P[x.2]? = some q ∧ kindN ms P x ≠ 0 ∧ seenL (ms.map Mt.xs) x.1 P Fd.zero = (if kindN ms P x = 4 then Fd.zero else ⟨kindN ms P x, q.1, k⟩) ∧ x.1.size ≤ 1000000000) := ⟨fun x hx => by
        obtain ⟨⟨r, hr, hm⟩, hno⟩ := hl1 x hx
        obtain ⟨q, hq, rfl⟩ := hRat _ _ hr
        obtain ⟨m, t, hm1, hmm, hxs, hta, hrn, _, hsz⟩ := HPL.out.row HKD.out (List.mem_of_getElem? hq)
        obtain ⟨k, h1, h2⟩ := seen_item OKS.out (s := x.1) (r := x.2) hq hm1 hm (fun i q' hi hq' hc => by
          have h3 : R[i]? = some (rowN ms q') := by rw [← hR, List.getElem?_map, hq']; rfl
          exact hno i _ hi h3 hc) (fun k hk => by rw [hxs] at hk ⊢; exact kids_kind hta hk)
        exact ⟨q, k, hq, h1, h2, hsz x.1 (by rw [← hrn]; exact hm)⟩⟩
      have hent : Rising ((entsL ms P F).map (·.1)) := Rising.sub (entsL_sub ms P F) hl2
      have hesz : ∀ s ∈ (entsL ms P F).map (·.1), s.size ≤ 140737488355328 := fun s hs => by
        obtain ⟨x, hx, rfl⟩ := List.mem_map.1 ((entsL_sub ms P F).subset hs)
        obtain ⟨_, _, _, _, _, h⟩ := HSN.out x hx
        omega
      have hel : (entsL ms P F).length ≤ 100000 := by
        have h1 := (entsL_sub ms P F).length_le
        rw [List.length_map, List.length_map] at h1
        omega
      have hFl : F.length ≤ 100000 := by omega
      obtain ⟨EN, hEN⟩ : ∃ EN, entsL ms P F = EN := ⟨_, rfl⟩
      rw [hEN] at HLC hent hesz hel
      have HENT := Av.mk (And.intro hent hesz)
      have HEN := Av.mk hEN
      clear hri hmn hRl hRat hl1 hl2 hl3 hst hF hml hent hesz hEN hFF hN hR HSUB
      have x0 := GJ.out.cell 0; have x1 := GJ.out.cell 1
      have lg := GJ.out.lt
      simp at x0 x1
      go_wp2_with fail
      refine (HLC.out wr BJ.out).mono ?_
      rintro e w7 ⟨Ae, ce, rfl, hse, hb7⟩
      have B7 : Av (Bel w6 w7) := ⟨below_then BJ.out (Below.size BJ.out) hb7⟩
      have BR7 := Av.mk hb7
      have E7 := Av.mk hse
      clear hse hb7 HLC x0 x1 lg
      go_wp2_with fail
      refine (mnames_calls E7.out hel).mono ?_
      rintro e w8 ⟨An, cn, rfl, hsn, hb8⟩
      have B8 : Av (Bel w6 w8) := ⟨below_then B7.out (Below.size B7.out) hb8⟩
      have BR8 : Av (Bel wr w8) := ⟨below_then BR7.out (Below.size BR7.out) hb8⟩
      have E8 := Av.mk (E7.out.grow hb8)
      have HRS : Av (Calls Tryd.prog 34 #[.slice An EN.length cn] w8 (QuB (.bool true) w8)) := ⟨by
        have h := rises_calls hsn (by rw [List.length_map]; exact hel) HENT.out.2 HENT.out.1
        rw [List.length_map] at h
        exact h⟩
      clear hsn hb8 B7 BR7 E7 HENT
      go_wp2_with fail
      refine HRS.out.mono ?_
      rintro e w9 ⟨rfl, mm, rfl⟩
      have B9 : Av (Bel w6 (w8.drewN mm)) := ⟨below_drewN B8.out mm⟩
      have BR9 : Av (Bel wr (w8.drewN mm)) := ⟨below_drewN BR8.out mm⟩
      have E9 := Av.mk (E8.out.grow (below_drewN (Below.refl _ w8) mm))
      clear B8 BR8 E8 HRS
      generalize w8.drewN mm = w9 at *
      go_wp2_with fail
      refine (HMC.out w9 BR9.out).mono ?_
      rintro e w10 ⟨Am, cm, rfl, hsm, hb10⟩
      have HF10 := Av.mk (HFC.out w10 Am cm (hsm.mono (fun _ _ => trivial)))
      have B10 : Av (Bel w6 w10) := ⟨below_then B9.out (Below.size B9.out) hb10⟩
      have E10 := Av.mk (E9.out.grow hb10)
      clear hsm hb10 HMC HFC B9 BR9 E9
      go_wp2_with fail
      refine HF10.out.mono ?_
      rintro e w11 ⟨Af, cf, rfl, hsf, hb11⟩
      have B11 : Av (Bel w6 w11) := ⟨below_then B10.out (Below.size B10.out) hb11⟩
      have E11 := Av.mk (E10.out.grow hb11)
      have F11 := Av.mk hsf
      clear hsf hb11 HF10 B10 E10 GJ BWJ BJ OJ
      go_wp2_with fail
      have hp8b := HPL.out.len
      clear HPL HKD HPP
      go_loopw [11, 66] (fun s11 s66 wr => ∃ (j k : Nat), j ≤ F.length ∧ k ≤ EN.length ∧ s66 = .int .i64 j ∧ s11 = .int .i64 k ∧ Av (entsL ms P (F.drop j) = EN.drop k) ∧ Bel w11 wr) (fun _ s66 _ => F.length - (intOf s66).toNat)
      case atStart => exact ⟨0, 0, Nat.zero_le _, Nat.zero_le _, rfl, rfl, ⟨by simpa using HEN.out⟩, Below.refl _ _⟩
      case round =>
        obtain ⟨j, k, hj, hk, rfl, rfl, HM, hb⟩ := hrel
        have BJ := Av.mk hb
        have B6J : Av (Bel w6 wr) := ⟨below_then B11.out (Below.size B11.out) hb⟩
        have BWJ : Av (Bel w wr) := ⟨below_then B6.out (Below.size B6.out) B6J.out⟩
        clear hb
        by_cases hlt : j < F.length
        · obtain ⟨⟨s, r⟩, hx⟩ : ∃ x, F[j]? = some x := ⟨_, List.getElem?_eq_getElem hlt⟩
          obtain ⟨⟨lv, ino⟩, kk, hq, hk0, hseen, hsz⟩ := HSN.out _ (List.mem_of_getElem? hx)
          simp only at hq hseen
          have hm2 := HM.out
          rw [drop_at hx] at hm2
          simp only [entsL] at hm2
          have hrl := (List.getElem?_eq_some_iff.1 hq).1
          obtain ⟨b, off, hA, hbl, hcc, d0, d1⟩ := item_at (F11.out.grow BJ.out) hx
          subst hA
          simp only at d0 d1
          have hbg := below_alloc (Below.refl _ wr) (.cells #[.string s, .int .i64 (r : Int)] 76)
          have E2 := Av.mk (Blk.new wr 76 #[.string s, .int .i64 (r : Int)])
          have B2 : Av (Bel w11 (wr.alloc (.cells #[.string s, .int .i64 (r : Int)] 76))) := ⟨below_then BJ.out (Below.size BJ.out) hbg⟩
          have B62 : Av (Bel w6 (wr.alloc (.cells #[.string s, .int .i64 (r : Int)] 76))) := ⟨below_then B6J.out (Below.size B6J.out) hbg⟩
          have G2 := Av.mk (G6.out.keep (Keep.of_below (S := fun _ => False) B62.out) (by simp))
          have HC14 : Av (Calls Tryd.prog 14 #[.agg #[.slice As l.length cs, .int .i64 (l.length : Int)], .slice Ap P.length cp, .string s] (wr.alloc (.cells #[.string s, .int .i64 (r : Int)] 76)) (SeenP (seenL (ms.map Mt.xs) s P Fd.zero) (wr.alloc (.cells #[.string s, .int .i64 (r : Int)] 76)))) := ⟨by
            have h := look_calls (S6.out.grow B62.out) OKS.out (l.length : Int) (PA.out.grow B62.out) (by omega) s
            rw [HML.out] at h
            exact h⟩
          rw [hseen] at HC14
          have HQ := Av.mk hq
          generalize kindN ms P (s, r) = kd at *
          clear hx hseen hsz hq hbg HM
          go_upto_region 23 with (fail)
          generalize wr.alloc (.cells #[.string s, .int .i64 (r : Int)] 76) = w2 at *
          generalize wr.heap.size = gx at *
          have c0 := E2.out.cell 0; have c1 := E2.out.cell 1
          have lx := E2.out.lt
          have x0 := G2.out.cell 0; have x1 := G2.out.cell 1
          have lg := G2.out.lt
          simp at c0 c1 x0 x1
          by_cases hk4 : kd = 4
          · rw [if_pos hk4] at hm2 HC14
            have HM2 := Av.mk hm2
            clear hm2 hk4
            go_wp2_with fail
            refine HC14.out.mono ?_
            rintro e w3 ⟨A3, n3, c3, rfl, hb3⟩
            have B3 : Av (Bel w11 (w3.alloc (.cells #[.int .i64 Fd.zero.kind, .int .i64 (Fd.zero.lv : Int), .int .i64 (Fd.zero.ino : Int), .slice A3 n3 c3] 45))) := by
              have h1 : Bel w11 w3 := below_then B2.out (Below.size B2.out) hb3
              exact ⟨below_then h1 (Below.size h1) (below_alloc (Below.refl _ w3) _)⟩
            have hz1 : (Fd.zero.kind != 0) = false := rfl
            rw [hz1]
            clear hb3
            go_wp2_with fail
            go_roundw
            case rel => exact ⟨j + 1, k, by omega, hk, by go_num, rfl, HM2, B3.out⟩
            case measure => simp [intOf]; omega
          · rw [if_neg hk4] at hm2 HC14
            have hkl : k < EN.length := by
              rcases Nat.lt_or_ge k EN.length with h | h
              · exact h
              · rw [List.drop_of_length_le h] at hm2; cases hm2
            obtain ⟨en, hen⟩ : ∃ en, EN[k]? = some en := ⟨_, List.getElem?_eq_getElem hkl⟩
            rw [drop_at hen] at hm2
            injection hm2 with hm2 hm3
            subst hm2
            have HM2 := Av.mk hm3
            have HENK := Av.mk hen
            have hkd0 : (kd != 0) = true := by simpa using hk0
            clear hm3 hen hk4 hk0
            go_wp2_with fail
            refine HC14.out.mono ?_
            rintro e w3 ⟨A3, n3, c3, rfl, hb3⟩
            simp only
            rw [hkd0]
            have hb4 := below_alloc (Below.refl _ w3) (.cells #[.int .i64 kd, .int .i64 (lv : Int), .int .i64 (kk : Int), .slice A3 n3 c3] 45)
            have Y4 := Av.mk (Blk.new w3 45 #[.int .i64 kd, .int .i64 (lv : Int), .int .i64 (kk : Int), .slice A3 n3 c3])
            have B23 : Av (Bel w2 (w3.alloc (.cells #[.int .i64 kd, .int .i64 (lv : Int), .int .i64 (kk : Int), .slice A3 n3 c3] 45))) := ⟨below_then hb3 (Below.size hb3) hb4⟩
            have B4 : Av (Bel w11 (w3.alloc (.cells #[.int .i64 kd, .int .i64 (lv : Int), .int .i64 (kk : Int), .slice A3 n3 c3] 45))) := ⟨below_then B2.out (Below.size B2.out) B23.out⟩
            have B64 : Av (Bel w6 (w3.alloc (.cells #[.int .i64 kd, .int .i64 (lv : Int), .int .i64 (kk : Int), .slice A3 n3 c3] 45))) := ⟨below_then B62.out (Below.size B62.out) B23.out⟩
            have E4 := Av.mk (E2.out.keep (Keep.of_below (S := fun _ => False) B23.out) (by simp))
            clear hb3 hb4 E2 G2 HC14 c0 c1 lx x0 x1 lg
            go_upto_region 25 with (fail)
            generalize w3.alloc (.cells #[.int .i64 kd, .int .i64 (lv : Int), .int .i64 (kk : Int), .slice A3 n3 c3] 45) = w4 at *
            generalize w3.heap.size = gy at *
            obtain ⟨be, oe, hAe, _, hcce, e0, e1⟩ := entry_at (E11.out.grow B4.out) HENK.out
            subst hAe
            obtain ⟨bp, op, hAp, _, hccp, p0, _⟩ := pl_at (PA.out.grow B64.out) HQ.out
            subst hAp
            simp only at e0 e1 p0
            have c0 := E4.out.cell 0; have c1 := E4.out.cell 1
            have lx := E4.out.lt
            have y0 := Y4.out.cell 0; have y1 := Y4.out.cell 1
            have ly := Y4.out.lt
            simp at c0 c1 y0 y1
            have t1 : (s.toList == s.toList) = true := by simp
            have t2 : (kd == kd) = true := by simp
            have t3 : decide ((EN.length : Int) ≤ (k : Int)) = false := by rw [decide_eq_false_iff_not]; omega
            go_quiet (fail)
            go_wp2_with fail
            go_roundw
            case rel => exact ⟨j + 1, k + 1, by omega, by omega, by go_num, by go_num, HM2, below_drewN B4.out _⟩
            case measure => simp [intOf]; omega
        · obtain rfl : j = F.length := by omega
          have hm2 := HM.out
          rw [List.drop_length] at hm2
          simp only [entsL] at hm2
          have hkl : k = EN.length := by
            have := congrArg List.length hm2
            rw [List.length_drop, List.length_nil] at this
            omega
          subst hkl
          go_wp2_with fail
          go_ret
          exact ⟨by simp, BWJ.out⟩
end Go.Proofs.YtkmojgdjapfbbaaDoor
