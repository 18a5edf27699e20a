/- A branch gone through by names: plainly. -/
import Derived.Test.YtkmojgdjapfbbaaDoorBc
import Derived.Test.YtkmojgdjapfbbaaDoorEnc
import Derived.Test.YtkmojgdjapfbbaaDoorPa
import Derived.Test.YtkmojgdjapfbbaaDoorNr
namespace Go.Proofs.YtkmojgdjapfbbaaDoor
open Go.RowKit Go.Maps
set_option linter.unusedSimpArgs false
set_option linter.unusedVariables false

mutual
/-- A tree without what is in its files. -/
def T.strip : T → T
  | .node k o ns its sz ex tg => .node k o ns (T.stripL its) sz [] tg
def T.stripL : List T → List T
  | [] => []
  | t :: l => T.strip t :: T.stripL l
end
theorem T.strip_eq (t : T) : t.strip = .node t.kind t.opq t.names (T.stripL t.items) t.size [] t.target := by cases t; rfl
theorem T.stripL_map : ∀ l : List T, T.stripL l = l.map T.strip
  | [] => rfl
  | t :: l => by simp [T.stripL, T.stripL_map l]
theorem T.stripL_len (l : List T) : (T.stripL l).length = l.length := by rw [T.stripL_map, List.length_map]
theorem T.stripL_take {l : List T} {j : Nat} {u : T} (h : l[j]? = some u) : T.stripL (l.take (j + 1)) = T.stripL (l.take j) ++ [u.strip] := by
  rw [T.stripL_map, T.stripL_map, List.take_add_one, h, Option.toList_some, List.map_append]; rfl
theorem T.strip_count (t : T) : t.strip.count = t.count := by
  induction t using T.ind with
  | h t ih =>
    rw [T.strip_eq, T.count_eq, T.count_eq t]
    have h2 : ∀ l : List T, (∀ u ∈ l, u.strip.count = u.count) → T.countL (T.stripL l) = T.countL l := by
      intro l
      induction l with
      | nil => intro _; rfl
      | cons u l ih2 =>
        intro h
        simp only [T.stripL, T.countL]
        rw [h u (by simp), ih2 (fun v hv => h v (List.mem_cons_of_mem _ hv))]
    show 1 + T.countL (T.stripL t.items) = _
    rw [h2 t.items ih]
/-- A tree's rows stand in a table from n on. -/
def InTab (xs : List Ino) (n : Nat) (t : T) : Prop := ∀ (j : Nat) (x : Ino), (T.rows n t)[j]? = some x → xs[n + j]? = some x
theorem InTab.root (t : T) : InTab (t.rows 0) 0 t := fun j x h => by simpa using h
theorem InTab.at {xs : List Ino} {n : Nat} {t : T} (h : InTab xs n t) : inoAt xs n = ⟨t.kind, t.opq, t.names, t.size, t.target, T.idsL (n + 1) t.items⟩ := by
  have h0 := h 0 ⟨t.kind, t.opq, t.names, t.size, t.target, T.idsL (n + 1) t.items⟩ (by cases t; rfl)
  rw [Nat.add_zero] at h0
  unfold inoAt
  rw [h0]
  rfl
theorem rowsL_at {u : T} {i : Nat} {x : Ino} : ∀ (l : List T) (j m : Nat), l[j]? = some u → (T.rows (m + T.countL (l.take j)) u)[i]? = some x → (T.rowsL m l)[T.countL (l.take j) + i]? = some x
  | [], j, m, h, _ => by simp at h
  | t :: l, 0, m, h, h2 => by
    simp at h
    subst h
    simp only [List.take_zero, T.countL, Nat.add_zero, Nat.zero_add] at h2 ⊢
    have hl := (List.getElem?_eq_some_iff.1 h2).1
    rw [T.rowsL, List.getElem?_append_left hl]
    exact h2
  | t :: l, j + 1, m, h, h2 => by
    simp only [List.getElem?_cons_succ] at h
    simp only [List.take_succ_cons, T.countL] at h2 ⊢
    rw [← Nat.add_assoc] at h2
    have h3 := rowsL_at l j (m + t.count) h h2
    rw [T.rowsL, List.getElem?_append_right (by rw [T.rows_len]; omega), T.rows_len, show t.count + T.countL (l.take j) + i - t.count = T.countL (l.take j) + i by omega]
    exact h3
theorem InTab.kid {xs : List Ino} {n j : Nat} {t u : T} (h : InTab xs n t) (hu : t.items[j]? = some u) : InTab xs (n + 1 + T.countL (t.items.take j)) u := by
  intro i x hx
  have h2 := rowsL_at t.items j (n + 1) hu hx
  have h3 := h (1 + (T.countL (t.items.take j) + i)) x (by
    obtain ⟨k, o, ns, its, sz, ex, tg⟩ := t
    rw [T.rows, Nat.add_comm 1, List.getElem?_cons_succ]
    exact h2)
  rw [show n + 1 + T.countL (t.items.take j) + i = n + (1 + (T.countL (t.items.take j) + i)) by omega]
  exact h3
theorem idsL_at : ∀ (l : List T) (j m : Nat), j < l.length → (T.idsL m l)[j]? = some (m + T.countL (l.take j))
  | [], j, m, h => by simp at h
  | t :: l, 0, m, h => by simp [T.idsL, T.countL]
  | t :: l, j + 1, m, h => by
    simp only [List.length_cons] at h
    simp only [T.idsL, List.getElem?_cons_succ, List.take_succ_cons, T.countL]
    rw [idsL_at l j (m + t.count) (by omega), Nat.add_assoc]
theorem one_nm {t : T} (h : t.one = true) : Rising t.names ∧ t.names.length = t.items.length := by
  have hnil : ∀ l : List ByteArray, l.length = 0 → Rising l := fun l hl i j a b _ ha => by
    rw [List.length_eq_zero_iff.1 hl] at ha
    simp at ha
  obtain ⟨k, o, ns, its, sz, ex, tg⟩ := t
  rw [T.one_node] at h
  simp only [T.names, T.items]
  have hnone : T.noneB (.node k o ns its sz ex tg) = true → Rising ns ∧ ns.length = its.length := fun hn => by
    have n1 := T.noneB_iff hn
    simp only [T.opq, T.names, T.items] at n1
    exact ⟨hnil ns n1.2.1, by omega⟩
  by_cases hk : k = 1
  · rw [if_pos hk] at h
    simp only [Bool.and_eq_true] at h
    exact hnone h.1.1
  rw [if_neg hk] at h
  by_cases hk2 : k = 2
  · rw [if_pos hk2] at h
    simp only [Bool.and_eq_true] at h
    have h4 := h.2
    unfold T.namesOk at h4
    simp only [T.names, T.items, Bool.and_eq_true, decide_eq_true_eq] at h4
    exact ⟨(nmB_rising _ _ h4.1).1, of_decide_eq_true h4.2⟩
  rw [if_neg hk2] at h
  by_cases hk3 : k = 3
  · rw [if_pos hk3] at h
    simp only [Bool.and_eq_true] at h
    exact hnone h.1.1.1
  rw [if_neg hk3] at h
  by_cases hk4 : k = 4
  · rw [if_pos hk4] at h
    simp only [Bool.and_eq_true] at h
    exact hnone h.1.1
  · rw [if_neg hk4] at h; cases h
end Go.Proofs.YtkmojgdjapfbbaaDoor
namespace Go.Proofs.YtkmojgdjapfbbaaDoor
open Go.RowKit Go.Maps
set_option linter.unusedSimpArgs false
set_option linter.unusedVariables false

/-- Nodes in a row that may grow in place; what is in them lies elsewhere: in blocks of Q, all below base, or from base on. -/
structure Kits (w : World) (base : Nat) (Q : Nat → Prop) (v : Value) (ps : List NV) (l : List T) : Prop where
  len : ps.length = l.length
  low : ∀ k, Q k → k < base
  row : w.ownsRow base 33 7 v l.length ((ps.zip l).flatMap pairC)
  rep : ∀ (i : Nat) (q : NV) (u : T), ps[i]? = some q → l[i]? = some u → Rep (fun k => (Q k ∨ base ≤ k) ∧ v.ownBlock ≠ some k) w q u
section
variable {w w1 w2 : World} {base : Nat} {Q : Nat → Prop} {v v' : Value} {ps : List NV} {l : List T} {S : Nat → Prop} {q : NV} {u : T} {cs : Array Value}
theorem Kits.nil (w : World) {base : Nat} {Q : Nat → Prop} (h : ∀ k, Q k → k < base) : Kits w base Q (.slice none 0 0) [] [] :=
  ⟨rfl, h, ⟨rfl, .inl ⟨rfl, rfl⟩⟩, fun i q u h => by simp at h⟩
theorem Kits.keep (h : Kits w base Q v ps l) (hk : Keep S w w1) (hS : ∀ k, Q k ∨ base ≤ k → ¬ S k) : Kits w1 base Q v ps l :=
  ⟨h.len, h.low, row_keep h.row hk (fun k e => hS k (.inr (row_base h.row k e.symm))), fun i q u h1 h2 => (h.rep i q u h1 h2).keep hk (fun k hb => hS k hb.1)⟩
theorem Kits.bel (h : Kits w base Q v ps l) (hb : Bel w w1) : Kits w1 base Q v ps l := h.keep (S := fun _ => False) (Keep.of_below hb) (fun _ _ h => h)
theorem Kits.lt (h : Kits w base Q v ps l) : ∀ k, v.ownBlock = some k → k < w.heap.size := fun k e => row_lt h.row k e.symm
theorem Kits.isT (h : Kits w base Q v ps l) : ∀ k, v.ownBlock = some k → IsT w 33 k := row_isT h.row
/-- One more, out of a call that made memory only. -/
theorem Kits.snoc (h : Kits w base Q v ps l) (hb : base ≤ w.heap.size) (hk : Bel w w1)
    (hr : Rep (fun k => Q k ∨ w.heap.size ≤ k) w1 q u) (hg : (w1.alloc (.cells cs 33)).grownBy w2 v.ownBlock) (ho : w2.ownsRow base 33 7 v' (l.length + 1) ((ps.zip l).flatMap pairC ++ pairC (q, u)))
    (hd : v'.ownBlock = v.ownBlock ∨ v'.ownBlock = some (w1.alloc (.cells cs 33)).heap.size) : Kits w2 base Q v' (ps ++ [q]) (l ++ [u]) := by
  have hz : (w1.alloc (.cells cs 33)).heap.size = w1.heap.size + 1 := by simp
  rw [hz] at hd
  have h1 := h.bel hk
  have hk2 : Keep (fun k => v.ownBlock = some k) w1 w2 := ((Keep.refl (fun k => v.ownBlock = some k) w1).alloc _).grown hg (fun k e _ => e)
  have hw := Below.size hk
  refine ⟨by simp [h.len], h.low, ?_, fun i q' u' e1 e2 => ?_⟩
  · rw [List.zip_append h.len, List.flatMap_append, List.length_append]
    simpa using ho
  · by_cases hi : i < l.length
    · rw [List.getElem?_append_left (by rw [h.len]; exact hi)] at e1
      rw [List.getElem?_append_left hi] at e2
      have h2 := ((h1.rep i q' u' e1 e2).bound).keep hk2 (fun k hk e => hk.1.2 e)
      refine h2.mono (fun k hk => ⟨hk.1.1, fun e => ?_⟩)
      rcases hd with hd | hd
      · exact hk.1.2 (hd ▸ e)
      · rw [hd] at e
        have := hk.2
        simp at e
        omega
    · have hl := (List.getElem?_eq_some_iff.1 e2).1
      simp at hl
      obtain rfl : i = l.length := by omega
      rw [List.getElem?_append_right (by rw [h.len]; exact Nat.le_refl _), h.len] at e1
      rw [List.getElem?_append_right (Nat.le_refl _)] at e2
      simp at e1 e2
      subst e1
      subst e2
      have hb2 : ∀ k, v.ownBlock = some k → base ≤ k := fun k e => row_base h.row k e.symm
      have h2 := hr.bound.keep hk2 (fun k hk e => by
        have h3 := h.lt k e
        have h4 := hb2 k e
        rcases hk.1 with h5 | h5
        · have := h.low k h5; omega
        · omega)
      refine h2.mono (fun k hk => ⟨hk.1.imp id (fun _ => by omega), fun e => ?_⟩)
      have hq : Q k → k < base := h.low k
      rcases hd with hd | hd
      · rw [hd] at e
        have h3 := h.lt k e
        have h4 := hb2 k e
        rcases hk.1 with h5 | h5
        · have := hq h5; omega
        · omega
      · rw [hd] at e
        have := hk.2
        simp at e
        omega
theorem Kits.repL (h : Kits w base Q v ps l) : RepL (fun k => Q k ∨ base ≤ k) w v l :=
  ⟨ps, h.len, Sl.of_row h.row (fun k e => .inr (row_base h.row k e.symm)), fun i q u h1 h2 => (h.rep i q u h1 h2).mono (fun k hk => hk.1)⟩
end
end Go.Proofs.YtkmojgdjapfbbaaDoor
namespace Go.Proofs.YtkmojgdjapfbbaaDoor
open Go.RowKit Go.Maps
set_option linter.unusedSimpArgs false
set_option linter.unusedVariables false

theorem bcount_calls {w : World} {b : Nat} {xs : List Ino} (h : BrAt w b xs) : Calls Tryd.prog 24 #[.pointer (some ⟨b, 0, none⟩)] w (RetB (.int .i64 (xs.length : Int)) w) := by
  obtain ⟨C, base, A, c, rows, hmap, ht⟩ := h
  have hl : xs.length = rows.length := by rw [← hmap, List.length_map]
  have t0 := ht.blk.cell 0
  have lb := ht.blk.lt
  simp at t0
  rw [hl]
  clear ht hmap hl
  generalize rows.length = n at *
  go_enter Tryd.func24, Tryd.ntmps24
  go_wp2_with fail
  go_ret
  exact ⟨rfl, Below.refl _ _⟩
/-- What strip and back answer: a tree. -/
def NdP (uk : Int) (uo : Bool) (uns : List ByteArray) (uits : List T) (usz : Int) (utg : ByteArray) (B : Nat → Prop) (w : World) (e : Ending) (w' : World) : Prop :=
  ∃ An cn Ai ci, e = .returned (.agg #[.int .i64 uk, .bool uo, .slice An uns.length cn, .slice Ai uits.length ci, .int .i64 usz, .slice none 0 0, .string utg]) ∧
    Rep (fun k => B k ∨ w.heap.size ≤ k) w' ⟨.slice An uns.length cn, .slice Ai uits.length ci, .slice none 0 0⟩ (.node uk uo uns uits usz [] utg) ∧ Bel w w'
def StripC (t : T) : Prop := ∀ (B : Nat → Prop) (w : World) (p : NV), Rep B w p t → (∀ k, B k → k < w.heap.size) → Calls Tryd.prog 22 #[nodeV p t] w (NdP t.kind t.opq t.names (T.stripL t.items) t.size t.target B w)
set_option maxRecDepth 100000 in
set_option maxHeartbeats 4000000 in
theorem strip_calls (t : T) : t.wt ≤ 1000000 → StripC t := by
  induction t using T.ind with
  | h t ih =>
    intro hw B w p h hB
    obtain ⟨An, cn, Ai, ci, Ae, ce, rfl⟩ := h.parts
    have hlc := T.len_le_countL t.items
    have hcw := t.count_le_wt
    rw [T.count_eq] at hcw
    have he := T.wt_eq t
    have HIH : Av (∀ u ∈ t.items, StripC u) := ⟨fun u hu => ih u hu (by have := T.wt_mem hu; omega)⟩
    have hil : t.items.length ≤ 1000000 := by omega
    clear ih hw hlc hcw he
    obtain ⟨k, o, ns, its, sz, ex, tg⟩ := t
    simp only [T.kind, T.opq, T.names, T.items, T.size, T.exts, T.target] at h HIH hil ⊢
    show Calls Tryd.prog 22 #[.agg #[.int .i64 k, .bool o, .slice An ns.length cn, .slice Ai its.length ci, .int .i64 sz, .slice Ae ex.length ce, .string tg]] w _
    have hb1 := below_alloc (Below.refl _ w) (.cells #[.int .i64 k, .bool o, .slice An ns.length cn, .slice Ai its.length ci, .int .i64 sz, .slice Ae ex.length ce, .string tg] 33)
    have hb2 := below_alloc hb1 (.cells #[.int .i64 0, .bool false, .slice none 0 0, .slice none 0 0, .int .i64 0, .slice none 0 0, .string ⟨#[]⟩] 33)
    have HN := Av.mk (h.grow hb2).names
    have HI := Av.mk (h.grow hb2).items
    simp only [T.names, T.items] at HN HI
    have HB := Av.mk hb2
    have X := Av.mk ((Blk.new w 33 #[.int .i64 k, .bool o, .slice An ns.length cn, .slice Ai its.length ci, .int .i64 sz, .slice Ae ex.length ce, .string tg]).alloc (.cells #[.int .i64 0, .bool false, .slice none 0 0, .slice none 0 0, .int .i64 0, .slice none 0 0, .string ⟨#[]⟩] 33))
    have Y := Av.mk (Blk.new (w.alloc (.cells #[.int .i64 k, .bool o, .slice An ns.length cn, .slice Ai its.length ci, .int .i64 sz, .slice Ae ex.length ce, .string tg] 33)) 33 #[.int .i64 0, .bool false, .slice none 0 0, .slice none 0 0, .int .i64 0, .slice none 0 0, .string ⟨#[]⟩])
    have hz : (w.alloc (.cells #[.int .i64 k, .bool o, .slice An ns.length cn, .slice Ai its.length ci, .int .i64 sz, .slice Ae ex.length ce, .string tg] 33)).heap.size = w.heap.size + 1 := by simp
    rw [hz] at Y
    have HBB := Av.mk hB
    clear h hb1 hb2 hz hB
    go_enter Tryd.func22, Tryd.ntmps22
    go_upto_region 1 with (fail)
    generalize (w.alloc (.cells #[.int .i64 k, .bool o, .slice An ns.length cn, .slice Ai its.length ci, .int .i64 sz, .slice Ae ex.length ce, .string tg] 33)).alloc (.cells #[.int .i64 0, .bool false, .slice none 0 0, .slice none 0 0, .int .i64 0, .slice none 0 0, .string ⟨#[]⟩] 33) = w1 at *
    obtain ⟨g, hg⟩ : ∃ g, w.heap.size = g := ⟨_, rfl⟩
    rw [hg] at X Y ⊢
    have HG := Av.mk hg
    have hB : ∀ k, B k → k < g := fun k hk => by rw [← hg]; exact HBB.out k hk
    clear hg HBB
    have HBG := Av.mk hB
    clear hB
    have p5 := X.out.cell 5
    have f5 := X.out.frozen 5
    have lx := X.out.lt
    simp at p5
    go_upto_region 2 with (fail)
    have X2 := Av.mk (X.out.set_ 5 (.slice none 0 0))
    have Y2 := Av.mk (Y.out.far (p := ⟨g, 5, none⟩) (by show g + 1 ≠ g; omega) (.slice none 0 0))
    have hk2 : Keep (fun k => k = g) w1 (w1.setCell ⟨g, 5, none⟩ (.slice none 0 0)) := (Keep.refl (fun k => k = g) w1).setCell (p := ⟨g, 5, none⟩) (fun _ => rfl) _
    have HN2 := Av.mk (HN.out.keep hk2 (fun k hk e => by have := HBG.out k hk; omega))
    have HI2 := Av.mk (HI.out.keep hk2 (fun k hk e => by have := HBG.out k hk; omega))
    have HB2 : Av (Below w.heap.size w (w1.setCell ⟨g, 5, none⟩ (.slice none 0 0))) := ⟨HB.out.trans (hk2.below (by rw [HG.out]; omega) (by rintro k rfl; rw [HG.out]; omega))⟩
    clear hk2 HN HI HB X Y p5 f5 lx
    generalize w1.setCell ⟨g, 5, none⟩ (.slice none 0 0) = w2 at *
    have p3 := X2.out.cell 3
    have lx := X2.out.lt
    have ly := Y2.out.lt
    simp at p3
    go_wp2_with fail
    have HK0 := Av.mk (Kits.nil w2 (base := w2.heap.size) (Q := B) (fun k hk => by have := HBG.out k hk; omega))
    have hgb : g + 1 < w2.heap.size := ly
    generalize hb0 : w2.heap.size = b0 at *
    have HB0 := Av.mk hb0
    clear hb0
    go_loopw [3, 10] (fun s3 s10 wr => ∃ (j : Nat) (A : Option Addr) (c : Nat) (ps : List NV), j ≤ its.length ∧ s10 = .int .i64 j ∧ s3 = .slice A j c ∧ Kits wr b0 B (.slice A j c) ps (T.stripL (its.take j)) ∧ Bel w2 wr) (fun _ i _ => its.length - (intOf i).toNat)
    case atStart => exact ⟨0, none, 0, [], Nat.zero_le _, rfl, rfl, HK0.out, Below.refl _ _⟩
    case round =>
      obtain ⟨j, A, c, ps, hj, rfl, rfl, hk, hb⟩ := hrel
      have HKJ := Av.mk hk
      have HBJ := Av.mk hb
      have XJ := Av.mk (X2.out.keep (Keep.of_below (S := fun _ => False) hb) (by simp))
      have YJ := Av.mk (Y2.out.keep (Keep.of_below (S := fun _ => False) hb) (by simp))
      have IJ := Av.mk (HI2.out.grow hb)
      have HSZ : Av (b0 ≤ wr.heap.size) := ⟨by rw [← HB0.out]; exact Below.size hb⟩
      clear hk hb p3 lx ly
      by_cases hlt : j < its.length
      · obtain ⟨u, hu⟩ : ∃ u, its[j]? = some u := ⟨_, List.getElem?_eq_getElem hlt⟩
        obtain ⟨b1, o1, q1, rfl, hB1, hl1, hc1, a0, a1, a2, a3, a4, a5, a6, r1⟩ := IJ.out.elem hu
        obtain ⟨Bn, dn, Bi, di, Be, de, rfl⟩ := r1.parts
        have hsu := HIH.out u (List.mem_of_getElem? hu)
        have hst := T.stripL_take hu
        obtain ⟨uk, uo, uns, uits, usz, uex, utg⟩ := u
        simp only [T.kind, T.opq, T.names, T.items, T.size, T.exts, T.target] at a0 a1 a2 a3 a4 a5 a6
        have HST : Av (T.stripL (its.take (j + 1)) = T.stripL (its.take j) ++ [.node uk uo uns (T.stripL uits) usz [] utg]) := ⟨hst⟩
        have HTL : Av ((T.stripL (its.take j)).length = j) := ⟨by rw [T.stripL_len, List.length_take]; omega⟩
        have hbg := below_alloc (Below.refl _ wr) (.cells #[.int .i64 uk, .bool uo, .slice Bn uns.length dn, .slice Bi uits.length di, .int .i64 usz, .slice Be uex.length de, .string utg] 33)
        have hsu2 := hsu B (wr.alloc (.cells #[.int .i64 uk, .bool uo, .slice Bn uns.length dn, .slice Bi uits.length di, .int .i64 usz, .slice Be uex.length de, .string utg] 33)) _ (r1.grow hbg) (fun k hk => by have h1 := HBG.out k hk; have h2 := HSZ.out; simp; omega)
        have HC : Av (Calls Tryd.prog 22 #[.agg #[.int .i64 uk, .bool uo, .slice Bn uns.length dn, .slice Bi uits.length di, .int .i64 usz, .slice Be uex.length de, .string utg]] (wr.alloc (.cells #[.int .i64 uk, .bool uo, .slice Bn uns.length dn, .slice Bi uits.length di, .int .i64 usz, .slice Be uex.length de, .string utg] 33)) (NdP uk uo uns (T.stripL uits) usz utg B (wr.alloc (.cells #[.int .i64 uk, .bool uo, .slice Bn uns.length dn, .slice Bi uits.length di, .int .i64 usz, .slice Be uex.length de, .string utg] 33)))) := ⟨hsu2⟩
        have K3 := Av.mk (HKJ.out.bel hbg)
        have HB3 : Av (Bel w2 (wr.alloc (.cells #[.int .i64 uk, .bool uo, .slice Bn uns.length dn, .slice Bi uits.length di, .int .i64 usz, .slice Be uex.length de, .string utg] 33))) := ⟨below_then HBJ.out (Below.size HBJ.out) hbg⟩
        have E3 := Av.mk (Blk.new wr 33 #[.int .i64 uk, .bool uo, .slice Bn uns.length dn, .slice Bi uits.length di, .int .i64 usz, .slice Be uex.length de, .string utg])
        have HSZ3 : Av (b0 ≤ (wr.alloc (.cells #[.int .i64 uk, .bool uo, .slice Bn uns.length dn, .slice Bi uits.length di, .int .i64 usz, .slice Be uex.length de, .string utg] 33)).heap.size) := ⟨by have := HSZ.out; simp; omega⟩
        clear hu r1 hsu hst hbg hsu2 IJ HKJ HBJ XJ YJ
        go_upto_region 6 with (fail)
        generalize wr.alloc (.cells #[.int .i64 uk, .bool uo, .slice Bn uns.length dn, .slice Bi uits.length di, .int .i64 usz, .slice Be uex.length de, .string utg] 33) = w3 at *
        generalize wr.heap.size = g5 at *
        clear a0 a1 a2 a3 a4 a5 a6
        have d0 := E3.out.cell 0; have d1 := E3.out.cell 1; have d2 := E3.out.cell 2; have d3 := E3.out.cell 3; have d4 := E3.out.cell 4; have d5 := E3.out.cell 5; have d6 := E3.out.cell 6
        have le := E3.out.lt
        simp at d0 d1 d2 d3 d4 d5 d6
        go_wp2_with fail
        refine HC.out.mono ?_
        rintro e w4 ⟨Cn, en, Ci, ei, rfl, hrep, hb4⟩
        have P4 := Av.mk hrep
        have HB34 := Av.mk hb4
        have K4 := K3.out.bel hb4
        have drow : w4.ownsRow b0 33 7 (.slice A j c) j ((ps.zip (T.stripL (its.take j))).flatMap pairC) := by
          have := K4.row
          rwa [HTL.out] at this
        have DR := Av.mk drow
        have HSZ4 : Av (b0 ≤ w4.heap.size) := ⟨by have := HSZ3.out; have := Below.size hb4; omega⟩
        have n1 : j + 1 ≤ maxLen := by unfold maxLen; omega
        have n2 : (j + 1) * 112 ≤ 140737488355328 := by omega
        obtain ⟨i33, hi33⟩ := info33
        have I33 := Av.mk hi33
        clear hrep hb4 drow K4 hi33 HC d0 d1 d2 d3 d4 d5 d6 le
        go_wp2_with (first
          | (at_builtin
             refine wpList_app rfl _ _ 22 rfl b0 33 i33 _ 7 112 Tryd.underlying22 I33.out.1 I33.out.2.1 I33.out.2.2.1 I33.out.2.2.2 (by rfl) (by decide) (.slice A j c) j _ rfl (DR.out.alloc _) ⟨w4.heap.size, 0, none⟩ 1 1 [.int .i64 uk, .bool uo, .slice Cn uns.length en, .slice Ci (T.stripL uits).length ei, .int .i64 usz, .slice none 0 0, .string utg] rfl rfl (new_cells w4 [.int .i64 uk, .bool uo, .slice Cn uns.length en, .slice Ci (T.stripL uits).length ei, .int .i64 usz, .slice none 0 0, .string utg] 33) (by simp [Value.oneCell']) n1 n2 (by have := HSZ4.out; simp; omega) ?_
             intro A5 c5 w5 ho5 hg5 hd5
             have HO5 := Av.mk ho5
             have HG5 := Av.mk hg5
             have HD5 := Av.mk hd5
             clear ho5 hg5 hd5))
        go_roundw
        case rel =>
          refine ⟨j + 1, A5, c5, ps ++ [⟨.slice Cn uns.length en, .slice Ci (T.stripL uits).length ei, .slice none 0 0⟩], by omega, by go_num, rfl, ?_, ?_⟩
          · rw [HST.out]
            exact K3.out.snoc (w1 := w4) (cs := #[.int .i64 uk, .bool uo, .slice Cn uns.length en, .slice Ci (T.stripL uits).length ei, .int .i64 usz, .slice none 0 0, .string utg]) HSZ3.out HB34.out P4.out HG5.out (by rw [HTL.out]; exact HO5.out) HD5.out
          · have hka : Keep (fun k => (Value.slice A j c).ownBlock = some k) w4 w5 := ((Keep.refl (fun k => (Value.slice A j c).ownBlock = some k) w4).alloc (.cells #[.int .i64 uk, .bool uo, .slice Cn uns.length en, .slice Ci (T.stripL uits).length ei, .int .i64 usz, .slice none 0 0, .string utg] 33)).grown HG5.out (fun k hk _ => hk)
            have h12 : Below w2.heap.size w2 w4 := below_then HB3.out (Below.size HB3.out) HB34.out
            exact h12.trans (hka.below (Below.size h12) (fun k e => by have h1 := row_base DR.out k e.symm; have h2 := HB0.out; omega))
        case measure => simp [intOf]; omega
      · obtain rfl : j = its.length := by omega
        have NA : Av (RepL (fun k => B k ∨ b0 ≤ k) wr (.slice A its.length c) (T.stripL its)) := ⟨by have h1 := HKJ.out.repL; rwa [List.take_length] at h1⟩
        have NN := Av.mk (HN2.out.grow HBJ.out)
        have HB4 : Av (Below w.heap.size w wr) := ⟨by
          have h1 : Below w.heap.size w w2 := HB2.out
          have h2 : Below w2.heap.size w2 wr := HBJ.out
          exact below_then h1 (Below.size h1) h2⟩
        clear HKJ HBJ IJ HN2 HI2 HB2 HK0
        have p3 := XJ.out.cell 3
        have f3 := XJ.out.frozen 3
        have lx := XJ.out.lt
        simp at p3
        go_upto_region 9 with (fail)
        have X9 := Av.mk (XJ.out.set_ 3 (.slice A its.length c))
        have Y9 := Av.mk (YJ.out.far (p := ⟨g, 3, none⟩) (by show g + 1 ≠ g; omega) (.slice A its.length c))
        have hk9 : Keep (fun k => k = g) wr (wr.setCell ⟨g, 3, none⟩ (.slice A its.length c)) := (Keep.refl (fun k => k = g) wr).setCell (p := ⟨g, 3, none⟩) (fun _ => rfl) _
        have N9 := Av.mk (NN.out.keep hk9 (fun k hk e => by have := HBG.out k hk; omega))
        have I9 := Av.mk (NA.out.keep hk9 (fun k hk e => by rcases hk with hk | hk; (have := HBG.out k hk; omega); omega))
        have B9 : Av (Below w.heap.size w (wr.setCell ⟨g, 3, none⟩ (.slice A its.length c))) := ⟨HB4.out.trans (hk9.below (by have := HB4.out.size; omega) (by rintro k rfl; rw [HG.out]; omega))⟩
        clear hk9 NN NA HB4 XJ YJ p3 f3 lx
        generalize wr.setCell ⟨g, 3, none⟩ (.slice A its.length c) = w9 at *
        have c0 := X9.out.cell 0; have c1 := X9.out.cell 1; have c2 := X9.out.cell 2; have c3 := X9.out.cell 3; have c4 := X9.out.cell 4; have c5 := X9.out.cell 5; have c6 := X9.out.cell 6
        have lx := X9.out.lt
        simp at c0 c1 c2 c3 c4 c5 c6
        go_wp2_with (first | (refine wpList_putB rfl 33 (.tmp 2) (.tmp 22) rfl (g + 1) 33 _ _ rfl rfl (by kernel_rfl) Y9.out rfl (by simp [Value.oneCell']) ?_; intro wz hbz hkz; have HBZ := Av.mk hbz; have HKZ := Av.mk hkz; clear hbz hkz))
        have e0 := HBZ.out.cell 0; have e1 := HBZ.out.cell 1; have e2 := HBZ.out.cell 2; have e3 := HBZ.out.cell 3; have e4 := HBZ.out.cell 4; have e5 := HBZ.out.cell 5; have e6 := HBZ.out.cell 6
        simp at e0 e1 e2 e3 e4 e5 e6
        refine bodyPost_ret (v := .agg #[.int .i64 k, .bool o, .slice An ns.length cn, .slice A its.length c, .int .i64 sz, .slice none 0 0, .string tg]) (by simp [results, Tryd.results22, go_sem, e0, e1, e2, e3, e4, e5, e6]) rfl ?_
        have NZ := N9.out.keep HKZ.out (fun k hk e => by have := HBG.out k hk; omega)
        have IZ := I9.out.keep HKZ.out (fun k hk e => by rcases hk with hk | hk; (have := HBG.out k hk; omega); omega)
        have BZ : Below w.heap.size w wz := B9.out.trans (HKZ.out.below (by have := B9.out.size; omega) (by rintro k rfl; rw [HG.out]; omega))
        have hgg := HG.out
        refine ⟨An, cn, A, c, by rw [T.stripL_len], ?_, BZ⟩
        rw [T.stripL_len]
        exact Rep.of (NZ.mono (fun k hk => .inl hk)) (Sl.nil _ _ _ none 0) (IZ.mono (fun k hk => hk.imp id (fun hk => by omega)))
end Go.Proofs.YtkmojgdjapfbbaaDoor
namespace Go.Proofs.YtkmojgdjapfbbaaDoor
open Go.RowKit Go.Maps
set_option linter.unusedSimpArgs false
set_option linter.unusedVariables false

set_option maxHeartbeats 1000000 in
theorem nsame_calls {B B' : Nat → Prop} {w : World} {A1 A2 : Option Addr} {c1 c2 : Nat} {ns : List ByteArray} (h1 : Sl B w 1 (.slice A1 ns.length c1) ns.length (ns.map Value.string)) (h2 : Sl B' w 1 (.slice A2 ns.length c2) ns.length (ns.map Value.string)) (hl : ns.length ≤ 1000000) :
    Calls Tryd.prog 57 #[.slice A1 ns.length c1, .slice A2 ns.length c2] w (QuB (.bool true) w) := by
  have H1 := Av.mk h1
  have H2 := Av.mk h2
  clear h1 h2
  go_enter Tryd.func57, Tryd.ntmps57
  go_wp2_with fail
  go_loopw [5] (fun s5 wr => ∃ j : Nat, j ≤ ns.length ∧ s5 = .int .i64 j ∧ (∃ m, wr = w.drewN m)) (fun s5 _ => ns.length - (intOf s5).toNat)
  case atStart => exact ⟨0, Nat.zero_le _, rfl, ⟨0, drewN_zero _⟩⟩
  case round =>
    obtain ⟨j, hj, rfl, ⟨m, hm⟩⟩ := hrel
    have HM := Av.mk hm
    have HS1 : Av (Sl B wr 1 (.slice A1 ns.length c1) ns.length (ns.map Value.string)) := ⟨by rw [hm]; exact H1.out.grow (below_drewN (Below.refl _ w) m)⟩
    have HS2 : Av (Sl B' wr 1 (.slice A2 ns.length c2) ns.length (ns.map Value.string)) := ⟨by rw [hm]; exact H2.out.grow (below_drewN (Below.refl _ w) m)⟩
    clear hm
    by_cases hlt : j < ns.length
    · obtain ⟨s, hsx⟩ : ∃ s, ns[j]? = some s := ⟨_, List.getElem?_eq_getElem hlt⟩
      obtain ⟨b1, o1, rfl, _, hbl1, hc1, e1, hall1⟩ := HS1.out.str hsx
      obtain ⟨b2, o2, rfl, _, hbl2, hc2, e2, hall2⟩ := HS2.out.str hsx
      have t1 : (s.toList == s.toList) = true := by simp
      clear hsx hall1 hall2
      go_upto_region 6 with (fail)
      go_quiet (fail)
      go_wp2_with fail
      go_roundw
      case rel => exact ⟨j + 1, by omega, by go_num, by rw [HM.out]; exact ⟨_, by first | rfl | exact World.drewN_drewN _ _ _⟩⟩
      case measure => simp [intOf]; omega
    · obtain rfl : j = ns.length := by omega
      go_wp2_with fail
      go_ret
      exact ⟨rfl, m, HM.out⟩
def SameC (t : T) : Prop := ∀ (B B' : Nat → Prop) (w : World) (p p' : NV), Rep B w p t → Rep B' w p' t → Calls Tryd.prog 21 #[nodeV p t, nodeV p' t] w (RetB (.bool true) w)
set_option maxRecDepth 100000 in
set_option maxHeartbeats 4000000 in
theorem same_node (k : Int) (o : Bool) (ns : List ByteArray) (its : List T) (sz : Int) (tg : ByteArray) (hn : ns.length ≤ 1000000) (hi : its.length ≤ 1000000) (ih : ∀ u ∈ its, SameC u) : SameC (.node k o ns its sz [] tg) := by
  intro B B' w p p' h h'
  obtain ⟨An, cn, Ai, ci, Ae, ce, rfl⟩ := h.parts
  obtain ⟨An', cn', Ai', ci', Ae', ce', rfl⟩ := h'.parts
  simp only [T.names, T.items, T.exts, List.length_nil] at h h'
  show Calls Tryd.prog 21 #[.agg #[.int .i64 k, .bool o, .slice An ns.length cn, .slice Ai its.length ci, .int .i64 sz, .slice Ae 0 ce, .string tg], .agg #[.int .i64 k, .bool o, .slice An' ns.length cn', .slice Ai' its.length ci', .int .i64 sz, .slice Ae' 0 ce', .string tg]] w _
  have HIH := Av.mk ih
  have hb1 := below_alloc (Below.refl _ w) (.cells #[.int .i64 k, .bool o, .slice An ns.length cn, .slice Ai its.length ci, .int .i64 sz, .slice Ae 0 ce, .string tg] 33)
  have hb2 := below_alloc hb1 (.cells #[.int .i64 k, .bool o, .slice An' ns.length cn', .slice Ai' its.length ci', .int .i64 sz, .slice Ae' 0 ce', .string tg] 33)
  have HN1 : Av (Sl B _ 1 (.slice An ns.length cn) ns.length (ns.map Value.string)) := ⟨(h.grow hb2).names⟩
  have HN2 : Av (Sl B' _ 1 (.slice An' ns.length cn') ns.length (ns.map Value.string)) := ⟨(h'.grow hb2).names⟩
  have HI1 : Av (RepL B _ (.slice Ai its.length ci) its) := ⟨(h.grow hb2).items⟩
  have HI2 : Av (RepL B' _ (.slice Ai' its.length ci') its) := ⟨(h'.grow hb2).items⟩
  have HB : Av (Bel w _) := ⟨hb2⟩
  have X := Av.mk ((Blk.new w 33 #[.int .i64 k, .bool o, .slice An ns.length cn, .slice Ai its.length ci, .int .i64 sz, .slice Ae 0 ce, .string tg]).alloc (.cells #[.int .i64 k, .bool o, .slice An' ns.length cn', .slice Ai' its.length ci', .int .i64 sz, .slice Ae' 0 ce', .string tg] 33))
  have Y := Av.mk (Blk.new (w.alloc (.cells #[.int .i64 k, .bool o, .slice An ns.length cn, .slice Ai its.length ci, .int .i64 sz, .slice Ae 0 ce, .string tg] 33)) 33 #[.int .i64 k, .bool o, .slice An' ns.length cn', .slice Ai' its.length ci', .int .i64 sz, .slice Ae' 0 ce', .string tg])
  have hz : (w.alloc (.cells #[.int .i64 k, .bool o, .slice An ns.length cn, .slice Ai its.length ci, .int .i64 sz, .slice Ae 0 ce, .string tg] 33)).heap.size = w.heap.size + 1 := by simp
  rw [hz] at Y
  clear h h' ih hb1 hb2 hz
  go_enter Tryd.func21, Tryd.ntmps21
  go_upto_region 1 with (fail)
  generalize (w.alloc (.cells #[.int .i64 k, .bool o, .slice An ns.length cn, .slice Ai its.length ci, .int .i64 sz, .slice Ae 0 ce, .string tg] 33)).alloc (.cells #[.int .i64 k, .bool o, .slice An' ns.length cn', .slice Ai' its.length ci', .int .i64 sz, .slice Ae' 0 ce', .string tg] 33) = w1 at *
  generalize w.heap.size = g1 at *
  obtain ⟨g2, hg2⟩ : ∃ g2, g1 + 1 = g2 := ⟨_, rfl⟩
  rw [hg2] at Y ⊢
  clear hg2
  have c0 := X.out.cell 0; have c1 := X.out.cell 1; have c2 := X.out.cell 2; have c3 := X.out.cell 3; have c4 := X.out.cell 4; have c5 := X.out.cell 5; have c6 := X.out.cell 6
  have lx := X.out.lt
  have d0 := Y.out.cell 0; have d1 := Y.out.cell 1; have d2 := Y.out.cell 2; have d3 := Y.out.cell 3; have d4 := Y.out.cell 4; have d5 := Y.out.cell 5; have d6 := Y.out.cell 6
  have ly := Y.out.lt
  simp at c0 c1 c2 c3 c4 c5 c6 d0 d1 d2 d3 d4 d5 d6
  have t1 : (tg.toList == tg.toList) = true := by simp
  have t2 : (o == o) = true := by simp
  go_wp2_with fail
  refine (nsame_calls HN1.out HN2.out hn).mono ?_
  rintro e w2 ⟨rfl, m, rfl⟩
  have HI1' := Av.mk (HI1.out.grow (below_drewN (Below.refl _ w1) m))
  have HI2' := Av.mk (HI2.out.grow (below_drewN (Below.refl _ w1) m))
  have HB' : Av (Bel w (w1.drewN m)) := ⟨HB.out.drewN m⟩
  have X' : Av (Blk (w1.drewN m) g1 33 _) := ⟨X.out.drewN m⟩
  have Y' : Av (Blk (w1.drewN m) g2 33 _) := ⟨Y.out.drewN m⟩
  clear HI1 HI2 HN1 HN2 HB X Y c0 c1 c2 c3 c4 c5 c6 d0 d1 d2 d3 d4 d5 d6 lx ly
  generalize w1.drewN m = w2 at *
  have p5 := X'.out.cell 5; have p3 := X'.out.cell 3
  have q5 := Y'.out.cell 5; have q3 := Y'.out.cell 3
  have lx := X'.out.lt
  have ly := Y'.out.lt
  simp at p5 p3 q5 q3
  go_wp2_with fail
  go_loopw [5] (fun s5 wr => s5 = .int .i64 0 ∧ Av (w2 = wr)) (fun _ _ => 0)
  case atStart => exact ⟨rfl, ⟨rfl⟩⟩
  case round =>
    obtain ⟨rfl, ⟨rfl⟩⟩ := hrel
    go_wp2_with fail
    go_loopw [6] (fun s6 wr => ∃ j : Nat, j ≤ its.length ∧ s6 = .int .i64 j ∧ Bel w2 wr) (fun s6 _ => its.length - (intOf s6).toNat)
    case atStart => exact ⟨0, Nat.zero_le _, rfl, Below.refl _ _⟩
    case round =>
      obtain ⟨j, hj, rfl, hb⟩ := hrel
      have HB2 : Av (Bel w wr) := ⟨below_then HB'.out (Below.size HB'.out) hb⟩
      have HBJ := Av.mk hb
      have XJ := Av.mk (X'.out.keep (Keep.of_below (S := fun _ => False) hb) (by simp))
      have YJ := Av.mk (Y'.out.keep (Keep.of_below (S := fun _ => False) hb) (by simp))
      have I1 := Av.mk (HI1'.out.grow hb)
      have I2 := Av.mk (HI2'.out.grow hb)
      clear hb p5 lx p3 q5 q3 ly
      have p3 := XJ.out.cell 3
      have lx := XJ.out.lt
      have q3 := YJ.out.cell 3
      have ly := YJ.out.lt
      simp at p3 q3
      by_cases hlt : j < its.length
      · obtain ⟨u, hu⟩ : ∃ u, its[j]? = some u := ⟨_, List.getElem?_eq_getElem hlt⟩
        obtain ⟨b1, o1, q1, rfl, hB1, hl1, hc1, a0, a1, a2, a3, a4, a5, a6, r1⟩ := I1.out.elem hu
        obtain ⟨b2, o2, q2, rfl, hB2, hl2, hc2, e0, e1, e2, e3, e4, e5, e6, r2⟩ := I2.out.elem hu
        obtain ⟨Bn, dn, Bi, di, Be, de, rfl⟩ := r1.parts
        obtain ⟨Bn', dn', Bi', di', Be', de', rfl⟩ := r2.parts
        have hsu := HIH.out u (List.mem_of_getElem? hu)
        have HT : Av (∀ W, Bel wr W → Calls Tryd.prog 21 #[.agg #[.int .i64 u.kind, .bool u.opq, .slice Bn u.names.length dn, .slice Bi u.items.length di, .int .i64 u.size, .slice Be u.exts.length de, .string u.target], .agg #[.int .i64 u.kind, .bool u.opq, .slice Bn' u.names.length dn', .slice Bi' u.items.length di', .int .i64 u.size, .slice Be' u.exts.length de', .string u.target]] W (RetB (.bool true) W)) :=
          ⟨fun W hW => by
            have h9 := hsu B B' W _ _ (r1.grow hW) (r2.grow hW)
            exact h9⟩
        clear hu r1 r2 hsu I1 I2
        obtain ⟨uk, uo, uns, uits, usz, uex, utg⟩ := u
        simp only [T.kind, T.opq, T.names, T.items, T.size, T.exts, T.target] at a0 a1 a2 a3 a4 a5 a6 e0 e1 e2 e3 e4 e5 e6 HT
        go_upto_region 11 with (fail)
        go_region_law (first
          | (go_simp
             go_at_call 21
             go_wp2_with
               (go_at_call 21
                refine (HT.out _ (bel_drew _)).mono ?_
                rintro e w9 ⟨rfl, hb9⟩
                have HB9 : Av (Bel w2 w9) := ⟨below_then HBJ.out (Below.size HBJ.out) (below_then (bel_drew wr) (Below.size (bel_drew wr)) hb9)⟩
                clear hb9)))
        all_goals go_wp2_with fail
        all_goals
          go_roundw
          case rel => exact ⟨j + 1, by omega, by go_num, HB9.out⟩
          case measure => simp [intOf]; omega
      · obtain rfl : j = its.length := by omega
        go_wp2_with fail
        go_ret
        exact ⟨rfl, HB2.out⟩
theorem same_calls (t : T) : t.all = true → t.wt ≤ 1000000 → SameC t.strip := by
  induction t using T.ind with
  | h t ih =>
    intro ha hw
    rw [T.all_eq, Bool.and_eq_true] at ha
    have he := T.wt_eq t
    rw [T.strip_eq]
    have h1 := T.stripL_len t.items
    have h2 := (one_nm ha.2).2
    refine same_node _ _ _ _ _ _ (by omega) (by omega) (fun u hu => ?_)
    rw [T.stripL_map, List.mem_map] at hu
    obtain ⟨v, hv, rfl⟩ := hu
    exact ih v hv (T.allL_mem ha.1 hv) (by have := T.wt_mem hv; omega)
end Go.Proofs.YtkmojgdjapfbbaaDoor
namespace Go.Proofs.YtkmojgdjapfbbaaDoor
open Go.RowKit Go.Maps
set_option linter.unusedSimpArgs false
set_option linter.unusedVariables false

attribute [local go_sem ↓] fld135 fld33_0 fld33_1 fld33_2 fld33_4 fld33_6
def NamesN (ns : List ByteArray) (w : World) (e : Ending) (w' : World) : Prop := ∃ A c, e = .returned (.slice A ns.length c) ∧ Sl (fun k => w.heap.size ≤ k) w' 1 (.slice A ns.length c) ns.length (ns.map Value.string) ∧ Bel w w'
set_option maxRecDepth 100000 in
theorem bnames_new {w : World} {b : Nat} {xs : List Ino} (h : BrAt w b xs) (i : Nat) (hl : (inoAt xs i).names.length ≤ 100000000) : Calls Tryd.prog 32 #[.pointer (some ⟨b, 0, none⟩), .int .i64 i] w (NamesN (inoAt xs i).names w) := by
  have HC := Av.mk (at_calls h i)
  clear h
  generalize inoAt xs i = x at *
  go_enter Tryd.func32, Tryd.ntmps32
  go_wp2_with fail
  refine HC.out.mono ?_
  rintro e w1 ⟨nv, ev, iv, rfl, hr, hb⟩
  have HB := Av.mk hb
  obtain ⟨A, c, hnv⟩ := hr.names.shape
  simp only at hnv
  subst hnv
  have HS := Av.mk (clone9 _ w1 A x.names.length c _ hr.names (one_str _) hl)
  clear hb hr
  go_wp2_with fail
  refine HS.out.mono ?_
  rintro e w2 ⟨A2, c2, rfl, hrow, hb2⟩
  have HB2 : Av (Bel w w2) := ⟨below_then HB.out (Below.size HB.out) hb2⟩
  have HR2 := Av.mk (Sl.of_row (B := fun k => w.heap.size ≤ k) hrow (fun k hk => by have h1 := row_base hrow k hk.symm; have h2 := Below.size HB.out; omega))
  clear hb2 hrow
  go_wp2_with fail
  go_ret
  exact ⟨A2, c2, rfl, HR2.out, HB2.out⟩
attribute [-go_sem] fld135 fld33_0 fld33_1 fld33_2 fld33_4 fld33_6
def BackC (t : T) : Prop := ∀ (w : World) (b n : Nat) (xs : List Ino), BrAt w b xs → InTab xs n t → n + t.count ≤ 1000000 → Calls Tryd.prog 20 #[.pointer (some ⟨b, 0, none⟩), .int .i64 n] w (NdP t.kind t.opq t.names (T.stripL t.items) t.size t.target (fun _ => False) w)
set_option maxRecDepth 100000 in
set_option maxHeartbeats 4000000 in
theorem back_node (k : Int) (o : Bool) (ns : List ByteArray) (its : List T) (sz : Int) (ex : List IExt) (tg : ByteArray) (hri : Rising ns) (hnl : ns.length = its.length) (hil : its.length ≤ 1000000) (ih : ∀ u ∈ its, BackC u) : BackC (.node k o ns its sz ex tg) := by
  intro w b n xs hbr htab hcn
  have hat := htab.at
  simp only [T.kind, T.opq, T.names, T.items, T.size, T.exts, T.target] at hat ⊢
  have hinok : InoOk (inoAt xs n) := by
    rw [hat]
    exact ⟨hri, by show ns.length = (T.idsL (n + 1) its).length; rw [T.idsL_len]; exact hnl, by show ns.length ≤ 1000000; omega⟩
  have HLK : Av (∀ (W : World), BrAt W b xs → ∀ (j : Nat) (s : ByteArray), ns[j]? = some s → Calls Tryd.prog 44 #[.pointer (some ⟨b, 0, none⟩), .int .i64 n, .string s] W (RetB (.tuple #[.int .i64 ((n + 1 + T.countL (its.take j) : Nat) : Int), .bool true]) W)) := ⟨fun W hW j s hs => by
    have h1 := blook_calls hW n s hinok
    have h2 : lookI xs n s = some (n + 1 + T.countL (its.take j)) := by
      unfold lookI
      rw [hat]
      exact lookL_some _ _ _ j _ hri hs (idsL_at its j (n + 1) (by rw [← hnl]; exact (List.getElem?_eq_some_iff.1 hs).1))
    rw [h2] at h1
    exact h1⟩
  have HK : Av (∀ (W : World), BrAt W b xs → Calls Tryd.prog 45 #[.pointer (some ⟨b, 0, none⟩), .int .i64 n] W (RetB (.int .i64 k) W)) := ⟨fun W hW => by have h1 := kind_calls hW n; rw [hat] at h1; exact h1⟩
  have HO : Av (∀ (W : World), BrAt W b xs → Calls Tryd.prog 46 #[.pointer (some ⟨b, 0, none⟩), .int .i64 n] W (RetB (.bool o) W)) := ⟨fun W hW => by have h1 := opaque_calls hW n; rw [hat] at h1; exact h1⟩
  have HS : Av (∀ (W : World), BrAt W b xs → Calls Tryd.prog 55 #[.pointer (some ⟨b, 0, none⟩), .int .i64 n] W (RetB (.int .i64 sz) W)) := ⟨fun W hW => by have h1 := size_calls hW n; rw [hat] at h1; exact h1⟩
  have HT : Av (∀ (W : World), BrAt W b xs → Calls Tryd.prog 56 #[.pointer (some ⟨b, 0, none⟩), .int .i64 n] W (RetB (.string tg) W)) := ⟨fun W hW => by have h1 := target_calls hW n; rw [hat] at h1; exact h1⟩
  have HNM : Av (∀ (W : World), BrAt W b xs → Calls Tryd.prog 32 #[.pointer (some ⟨b, 0, none⟩), .int .i64 n] W (NamesN ns W)) := ⟨fun W hW => by
    have h1 := bnames_new hW n (by rw [hat]; show ns.length ≤ 100000000; omega)
    rw [hat] at h1
    exact h1⟩
  have HIH : Av (∀ (W : World) (j : Nat) (u : T), BrAt W b xs → its[j]? = some u → Calls Tryd.prog 20 #[.pointer (some ⟨b, 0, none⟩), .int .i64 ((n + 1 + T.countL (its.take j) : Nat) : Int)] W (NdP u.kind u.opq u.names (T.stripL u.items) u.size u.target (fun _ => False) W)) := ⟨fun W j u hW hu =>
    ih u (List.mem_of_getElem? hu) W b _ xs hW (htab.kid hu) (by
      rw [T.count_eq] at hcn
      have h1 := T.countL_take hu
      have h2 := T.countL_le its (j + 1)
      simp only [T.items] at hcn
      show n + 1 + T.countL (its.take j) + u.count ≤ 1000000
      omega)⟩
  have hcl : ∀ j, T.countL (its.take j) ≤ 1000000 - (n + 1) := fun j => by
    rw [T.count_eq] at hcn
    have h2 := T.countL_le its j
    simp only [T.items] at hcn
    omega
  have hn : n < 1000000 := by
    rw [T.count_eq] at hcn
    omega
  have HCL := Av.mk hcl
  have HBR := Av.mk hbr
  have HNL := Av.mk hnl
  clear hat hinok hbr htab hcn ih hri hcl hnl
  have hb0 := below_alloc (Below.refl _ w) (.cells #[.int .i64 0, .bool false, .slice none 0 0, .slice none 0 0, .int .i64 0, .slice none 0 0, .string ⟨#[]⟩] 33)
  have Z0 := Av.mk (Blk.new w 33 #[.int .i64 0, .bool false, .slice none 0 0, .slice none 0 0, .int .i64 0, .slice none 0 0, .string ⟨#[]⟩])
  have BR0 := Av.mk (HBR.out.grow hb0)
  have HB0 : Av (Bel w _) := ⟨hb0⟩
  clear hb0
  go_enter Tryd.func20, Tryd.ntmps20
  go_upto_region 1 with (fail)
  generalize w.alloc (.cells #[.int .i64 0, .bool false, .slice none 0 0, .slice none 0 0, .int .i64 0, .slice none 0 0, .string ⟨#[]⟩] 33) = w0 at *
  obtain ⟨g, hg⟩ : ∃ g, w.heap.size = g := ⟨_, rfl⟩
  rw [hg] at Z0 ⊢
  have HG := Av.mk hg
  clear hg
  go_wp2_with fail
  refine (HK.out w0 BR0.out).mono ?_
  rintro e w1 ⟨rfl, hb1⟩
  have BR1 := Av.mk (BR0.out.grow hb1)
  have Z1 := Av.mk (Z0.out.keep (Keep.of_below (S := fun _ => False) hb1) (by simp))
  have HB1 : Av (Bel w w1) := ⟨below_then HB0.out (Below.size HB0.out) hb1⟩
  clear hb1 BR0 Z0 HB0
  go_wp2_with fail
  refine (HO.out w1 BR1.out).mono ?_
  rintro e w2 ⟨rfl, hb2⟩
  have BR2 := Av.mk (BR1.out.grow hb2)
  have Z2 := Av.mk (Z1.out.keep (Keep.of_below (S := fun _ => False) hb2) (by simp))
  have HB2 : Av (Bel w w2) := ⟨below_then HB1.out (Below.size HB1.out) hb2⟩
  clear hb2 BR1 Z1 HB1
  go_wp2_with fail
  refine (HS.out w2 BR2.out).mono ?_
  rintro e w3 ⟨rfl, hb3⟩
  have BR3 := Av.mk (BR2.out.grow hb3)
  have Z3 := Av.mk (Z2.out.keep (Keep.of_below (S := fun _ => False) hb3) (by simp))
  have HB3 : Av (Bel w w3) := ⟨below_then HB2.out (Below.size HB2.out) hb3⟩
  clear hb3 BR2 Z2 HB2
  go_wp2_with fail
  refine (HT.out w3 BR3.out).mono ?_
  rintro e w4 ⟨rfl, hb4⟩
  have BR4 := Av.mk (BR3.out.grow hb4)
  have Z4 := Av.mk (Z3.out.keep (Keep.of_below (S := fun _ => False) hb4) (by simp))
  have HB4 : Av (Bel w w4) := ⟨below_then HB3.out (Below.size HB3.out) hb4⟩
  clear hb4 BR3 Z3 HB3
  go_wp2_with fail
  refine (HNM.out w4 BR4.out).mono ?_
  rintro e w5 ⟨An, cn, rfl, hsl, hb5⟩
  have hbx := below_alloc (Below.refl _ w5) (.cells #[.int .i64 k, .bool o, .slice An ns.length cn, .slice none 0 0, .int .i64 sz, .slice none 0 0, .string tg] 33)
  have N6 : Av (Sl (fun k => g < k ∧ k < w5.heap.size) (w5.alloc (.cells #[.int .i64 k, .bool o, .slice An ns.length cn, .slice none 0 0, .int .i64 sz, .slice none 0 0, .string tg] 33)) 1 (.slice An ns.length cn) ns.length (ns.map Value.string)) := by
    have h1 := Z4.out.lt
    exact ⟨(hsl.bound.mono (fun k hk => ⟨by have := hk.1; omega, hk.2⟩)).grow hbx⟩
  have Z6 := Av.mk ((Z4.out.keep (Keep.of_below (S := fun _ => False) hb5) (by simp)).alloc (.cells #[.int .i64 k, .bool o, .slice An ns.length cn, .slice none 0 0, .int .i64 sz, .slice none 0 0, .string tg] 33))
  have X6 := Av.mk (Blk.new w5 33 #[.int .i64 k, .bool o, .slice An ns.length cn, .slice none 0 0, .int .i64 sz, .slice none 0 0, .string tg])
  have HB6 : Av (Bel w (w5.alloc (.cells #[.int .i64 k, .bool o, .slice An ns.length cn, .slice none 0 0, .int .i64 sz, .slice none 0 0, .string tg] 33))) := by
    have h1 : Bel w w5 := below_then HB4.out (Below.size HB4.out) hb5
    exact ⟨below_then h1 (Below.size h1) hbx⟩
  have hgx : g < w5.heap.size := by have h1 := Z4.out.lt; have h2 := Below.size hb5; omega
  have hsz : (w5.alloc (.cells #[.int .i64 k, .bool o, .slice An ns.length cn, .slice none 0 0, .int .i64 sz, .slice none 0 0, .string tg] 33)).heap.size = w5.heap.size + 1 := by simp
  clear hsl hb5 hbx BR4 Z4 HB4 HK HO HS HNM
  go_upto_region 2 with (fail)
  generalize w5.alloc (.cells #[.int .i64 k, .bool o, .slice An ns.length cn, .slice none 0 0, .int .i64 sz, .slice none 0 0, .string tg] 33) = w6 at *
  generalize w5.heap.size = gx at *
  have HSZ := Av.mk hsz
  clear hsz
  have x2 := X6.out.cell 2
  have lx := X6.out.lt
  simp at x2
  go_wp2_with fail
  have HK0 := Av.mk (Kits.nil w6 (base := gx + 1) (Q := fun _ => False) (fun k hk => hk.elim))
  go_loopw [29] (fun s29 wr => ∃ (j : Nat) (A : Option Addr) (c : Nat) (ps : List NV), j ≤ ns.length ∧ s29 = .int .i64 j ∧ Kits wr (gx + 1) (fun _ => False) (.slice A j c) ps (T.stripL (its.take j)) ∧ Blk wr gx 33 #[.int .i64 k, .bool o, .slice An ns.length cn, .slice A j c, .int .i64 sz, .slice none 0 0, .string tg] ∧ Keep (fun k => gx ≤ k) w6 wr) (fun i _ => ns.length - (intOf i).toNat)
  case atStart => exact ⟨0, none, 0, [], Nat.zero_le _, rfl, HK0.out, X6.out, Keep.refl _ _⟩
  case round =>
    obtain ⟨j, A, c, ps, hj, rfl, hkits, hblk, hk⟩ := hrel
    have HKJ := Av.mk hkits
    have XJ := Av.mk hblk
    have KJ := Av.mk hk
    have ZJ := Av.mk (Z6.out.keep hk (by show ¬ gx ≤ g; omega))
    have NJ := Av.mk (N6.out.keep hk (fun k hk h => by have := hk.2; omega))
    have HBJ : Av (Bel w wr) := by
      have h1 : Below w.heap.size w w6 := HB6.out
      exact ⟨h1.trans (hk.below (Below.size h1) (fun k h => by have := HG.out; omega))⟩
    have BRJ := Av.mk (HBR.out.grow HBJ.out)
    have HSJ : Av (gx + 1 ≤ wr.heap.size) := ⟨by have := hblk.lt; omega⟩
    clear hkits hblk hk x2 lx
    by_cases hlt : j < ns.length
    · obtain ⟨s, hsx⟩ : ∃ s, ns[j]? = some s := ⟨_, List.getElem?_eq_getElem hlt⟩
      have hlt2 : j < its.length := by rw [← HNL.out]; exact hlt
      obtain ⟨u, hu⟩ : ∃ u, its[j]? = some u := ⟨_, List.getElem?_eq_getElem hlt2⟩
      obtain ⟨b1, o1, rfl, hB1, hbl1, hc1, e1, hall1⟩ := NJ.out.str hsx
      have hcl := HCL.out j
      have hst := T.stripL_take hu
      have hll := T.len_le_countL its
      have HLJ : Av (∀ (W : World), BrAt W b xs → Calls Tryd.prog 44 #[.pointer (some ⟨b, 0, none⟩), .int .i64 n, .string s] W (RetB (.tuple #[.int .i64 ((n + 1 + T.countL (its.take j) : Nat) : Int), .bool true]) W)) := ⟨fun W hW => HLK.out W hW j s hsx⟩
      have HUJ : Av (∀ (W : World), BrAt W b xs → Calls Tryd.prog 20 #[.pointer (some ⟨b, 0, none⟩), .int .i64 ((n + 1 + T.countL (its.take j) : Nat) : Int)] W (NdP u.kind u.opq u.names (T.stripL u.items) u.size u.target (fun _ => False) W)) := ⟨fun W hW => HIH.out W j u hW hu⟩
      obtain ⟨m, hm⟩ : ∃ m, n + 1 + T.countL (its.take j) = m := ⟨_, rfl⟩
      rw [hm] at HLJ HUJ
      have hnm : (n : Int) < (m : Int) := by omega
      have hm1 : (m : Int) ≤ 9223372036854775807 := by omega
      obtain ⟨uk, uo, uns, uits, usz, uex, utg⟩ := u
      simp only [T.kind, T.opq, T.names, T.items, T.size, T.exts, T.target] at HUJ
      have HST : Av (T.stripL (its.take (j + 1)) = T.stripL (its.take j) ++ [.node uk uo uns (T.stripL uits) usz [] utg]) := ⟨hst⟩
      have HTL : Av ((T.stripL (its.take j)).length = j) := ⟨by rw [T.stripL_len, List.length_take]; omega⟩
      clear hu hst hm hcl hsx hall1 HLK HIH
      go_wp2_with fail
      refine (HLJ.out wr BRJ.out).mono ?_
      rintro e w7 ⟨rfl, hb7⟩
      have K7 := Av.mk (HKJ.out.bel hb7)
      have X7 := Av.mk (XJ.out.keep (Keep.of_below (S := fun _ => False) hb7) (by simp))
      have B7 : Av (Bel w w7) := ⟨below_then HBJ.out (Below.size HBJ.out) hb7⟩
      have HSK := Av.mk (KJ.out.trans (Keep.of_below hb7))
      have HT : Av (∀ W, Bel w7 W → Calls Tryd.prog 20 #[.pointer (some ⟨b, 0, none⟩), .int .i64 m] W (NdP uk uo uns (T.stripL uits) usz utg (fun _ => False) W)) := ⟨fun W hW => HUJ.out W (HBR.out.grow (below_then B7.out (Below.size B7.out) hW))⟩
      have DR : Av (w7.ownsRow (gx + 1) 33 7 (.slice A j c) j ((ps.zip (T.stripL (its.take j))).flatMap pairC)) := ⟨by
        have := K7.out.row
        rwa [HTL.out] at this⟩
      clear hb7 HKJ XJ BRJ NJ HBJ HLJ HUJ e1
      have y3 := X7.out.cell 3
      have lx := X7.out.lt
      simp at y3
      have q1 : j + 1 ≤ maxLen := by unfold maxLen; omega
      have q2 : (j + 1) * 112 ≤ 140737488355328 := by omega
      obtain ⟨i33, hi33⟩ := info33
      have I33 := Av.mk hi33
      clear hi33
      go_upto_region 7 with (fail)
      go_region_law (first
        | (go_simp
           go_at_call 20
           go_wp2_with
             (go_at_call 20
              refine (HT.out _ (bel_drew _)).mono ?_
              rintro e w9 ⟨Cn, en, Ci, ei, rfl, hrep, hb9⟩
              have P9 := Av.mk hrep
              have B9 := Av.mk hb9
              have hb79 : Bel w7 w9 := below_then (bel_drew w7) (Below.size (bel_drew w7)) hb9
              have B79 := Av.mk hb79
              have X9 := Av.mk (X7.out.keep (Keep.of_below (S := fun _ => False) hb79) (by simp))
              have D9 := Av.mk (row_keep DR.out (Keep.of_below (S := fun _ => False) hb79) (fun _ _ => id))
              have y3' := X9.out.cell 3
              have fy3 := X9.out.frozen 3
              have ly' := X9.out.lt
              simp at y3'
              clear hrep hb9 hb79))
        | (refine step_app rfl _ _ 22 rfl (gx + 1) 33 i33 _ 7 112 Tryd.underlying22 I33.out.1 I33.out.2.1 I33.out.2.2.1 I33.out.2.2.2 (by rfl) (by decide) (.slice A j c) j _ rfl (D9.out.alloc _) ⟨w9.heap.size, 0, none⟩ 1 1 [.int .i64 uk, .bool uo, .slice Cn uns.length en, .slice Ci (T.stripL uits).length ei, .int .i64 usz, .slice none 0 0, .string utg] rfl rfl (new_cells w9 [.int .i64 uk, .bool uo, .slice Cn uns.length en, .slice Ci (T.stripL uits).length ei, .int .i64 usz, .slice none 0 0, .string utg] 33) (by simp [Value.oneCell']) q1 q2 (by simp; omega) ?_
           intro A2 c2 w10 ho10 hg10 hd10
           have HO10 := Av.mk ho10
           have HG10 := Av.mk hg10
           have HD10 := Av.mk hd10
           have X10 := Av.mk ((X9.out.alloc (.cells #[.int .i64 uk, .bool uo, .slice Cn uns.length en, .slice Ci (T.stripL uits).length ei, .int .i64 usz, .slice none 0 0, .string utg] 33)).grown hg10 (fun e => by have := row_base D9.out gx e; omega))
           have y3'' := X10.out.cell 3
           have fy3'' := X10.out.frozen 3
           have ly'' := X10.out.lt
           simp at y3''
           clear ho10 hg10 hd10))
      all_goals go_wp2_with fail
      all_goals
        have hka : Keep (fun k => (Value.slice A j c).ownBlock = some k) w9 w10 := ((Keep.refl (fun k => (Value.slice A j c).ownBlock = some k) w9).alloc (.cells #[.int .i64 uk, .bool uo, .slice Cn uns.length en, .slice Ci (T.stripL uits).length ei, .int .i64 usz, .slice none 0 0, .string utg] 33)).grown HG10.out (fun k hk _ => hk)
        have hks : Keep (fun k => k = gx) w10 (w10.setCell ⟨gx, 3, none⟩ (.slice A2 (j + 1) c2)) := (Keep.refl (fun k => k = gx) w10).setCell (p := ⟨gx, 3, none⟩) (fun _ => rfl) _
        have hob : ∀ k, (Value.slice A j c).ownBlock = some k → gx + 1 ≤ k := fun k e => row_base D9.out k e.symm
        have X11 : Blk (w10.setCell ⟨gx, 3, none⟩ (.slice A2 (j + 1) c2)) gx 33 #[.int .i64 k, .bool o, .slice (some ⟨b1, o1, none⟩) ns.length cn, .slice A2 (j + 1) c2, .int .i64 sz, .slice none 0 0, .string tg] := by
          simpa using X10.out.set_ 3 (.slice A2 (j + 1) c2)
        have hw7 : gx + 1 ≤ w7.drew.heap.size := by have := X7.out.lt; show gx + 1 ≤ w7.heap.size; omega
        have K10 := (K7.out.bel (bel_drew w7)).snoc (w1 := w9) (cs := #[.int .i64 uk, .bool uo, .slice Cn uns.length en, .slice Ci (T.stripL uits).length ei, .int .i64 usz, .slice none 0 0, .string utg]) hw7 B9.out P9.out HG10.out (by rw [HTL.out]; exact HO10.out) HD10.out
        have K11 := K10.keep hks (by rintro k (hk | hk) h; exact hk; omega)
        rw [← HST.out] at K11
        have KK := ((HSK.out.trans (Keep.of_below B79.out)).trans (hka.mono (S' := fun k => gx ≤ k) (fun k _ h => by have := hob _ h; omega))).trans (hks.mono (S' := fun k => gx ≤ k) (fun k _ h => by omega))
        exact ⟨⟨j + 1, A2, c2, _, by omega, by go_num, K11, X11, KK⟩, by simp [intOf]; omega⟩
    · obtain rfl : j = ns.length := by omega
      have NA : Av (RepL (fun k => gx + 1 ≤ k) wr (.slice A its.length c) (T.stripL its)) := ⟨by
        have h1 := HKJ.out.repL
        rw [HNL.out] at h1
        rw [List.take_length] at h1
        exact h1.mono (fun k hk => hk.elim False.elim id)⟩
      have HNL2 := HNL.out
      clear HKJ HK0 HLK HIH
      have c0 := XJ.out.cell 0; have c1 := XJ.out.cell 1; have c2 := XJ.out.cell 2; have c3 := XJ.out.cell 3; have c4 := XJ.out.cell 4; have c5 := XJ.out.cell 5; have c6 := XJ.out.cell 6
      have lx := XJ.out.lt
      simp at c0 c1 c2 c3 c4 c5 c6
      clear HNL2
      go_wp2_with (first | (refine wpList_putB rfl 33 (.tmp 4) (.tmp 52) rfl g 33 _ _ rfl rfl (by kernel_rfl) ZJ.out rfl (by simp [Value.oneCell']) ?_; intro wz hbz hkz; have HBZ := Av.mk hbz; have HKZ := Av.mk hkz; clear hbz hkz))
      have e0 := HBZ.out.cell 0; have e1 := HBZ.out.cell 1; have e2 := HBZ.out.cell 2; have e3 := HBZ.out.cell 3; have e4 := HBZ.out.cell 4; have e5 := HBZ.out.cell 5; have e6 := HBZ.out.cell 6
      simp at e0 e1 e2 e3 e4 e5 e6
      refine bodyPost_ret (v := .agg #[.int .i64 k, .bool o, .slice An ns.length cn, .slice A ns.length c, .int .i64 sz, .slice none 0 0, .string tg]) (by simp [results, Tryd.results20, go_sem, e0, e1, e2, e3, e4, e5, e6]) rfl ?_
      have NZ := (NJ.out).keep HKZ.out (fun k hk e => by have := hk.1; omega)
      have IZ := NA.out.keep HKZ.out (fun k hk e => by omega)
      have BZ : Below w.heap.size w wz := (HBJ.out : Below w.heap.size w wr).trans (HKZ.out.below (Below.size HBJ.out) (by rintro k rfl; rw [HG.out]; omega))
      refine ⟨An, cn, A, c, by rw [T.stripL_len, HNL.out], ?_, BZ⟩
      rw [T.stripL_len]
      exact Rep.of (NZ.mono (fun k hk => .inr (by have := hk.1; have := HG.out; omega))) (Sl.nil _ _ _ none 0) (IZ.mono (fun k hk => .inr (by have := HG.out; omega)))
theorem back_calls (t : T) : t.all = true → t.wt ≤ 1000000 → BackC t := by
  induction t using T.ind with
  | h t ih =>
    intro ha hw
    rw [T.all_eq, Bool.and_eq_true] at ha
    have he := T.wt_eq t
    have h1 := one_nm ha.2
    obtain ⟨k, o, ns, its, sz, ex, tg⟩ := t
    simp only [T.names, T.items, T.exts, T.target] at h1 he ih ha
    exact back_node k o ns its sz ex tg h1.1 h1.2 (by omega) (fun u hu => ih u hu (T.allL_mem ha.1 hu) (by have := T.wt_mem hu; omega))
end Go.Proofs.YtkmojgdjapfbbaaDoor
