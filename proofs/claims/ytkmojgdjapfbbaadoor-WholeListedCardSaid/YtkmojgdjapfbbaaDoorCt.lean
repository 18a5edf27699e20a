/- tree.Right, tree.Count. -/
import Derived.Test.YtkmojgdjapfbbaaDoorRt
namespace Go.Proofs.YtkmojgdjapfbbaaDoor
open Go.RowKit Go.Maps
set_option linter.unusedSimpArgs false
set_option linter.unusedVariables false

/-- Can there be such a tree? -/
def T.right (t : T) : Bool := (t.kind == 2) && (t.rgt 0 4096).1
set_option maxHeartbeats 1000000 in
theorem Right_calls {B : Nat → Prop} {w : World} {p : NV} {t : T} (h : Rep B w p t) (hB : ∀ k, B k → k < w.heap.size) (hf : Fit PnC PtC t) : Calls Tryd.prog 27 #[nodeV p t] w (RetB (.bool t.right) w) := by
  have HC := Av.mk (right_calls t hf)
  have H := Av.mk h
  have HBB := Av.mk hB
  obtain ⟨An, cn, Ai, ci, Ae, ce, rfl⟩ := h.parts
  obtain ⟨k, o, ns, its, sz, ex, tg⟩ := t
  show Calls Tryd.prog 27 #[.agg #[.int .i64 k, .bool o, .slice An ns.length cn, .slice Ai its.length ci, .int .i64 sz, .slice Ae ex.length ce, .string tg]] w _
  clear h hf hB
  obtain ⟨r, hr⟩ : ∃ r, T.rgt 0 4096 (.node k o ns its sz ex tg) = r := ⟨_, rfl⟩
  have HR : Av (T.right (.node k o ns its sz ex tg) = ((k == 2) && r.1)) := ⟨by unfold T.right; rw [hr]; rfl⟩
  have HRR := Av.mk hr
  generalize T.right (.node k o ns its sz ex tg) = R at *
  clear hr
  by_cases hk : k = 2
  · have t2 : (k == 2) = true := by simpa using hk
    have HR2 : Av (R = r.1) := ⟨by rw [HR.out, t2]; simp⟩
    clear hk
    go_enter Tryd.func27, Tryd.ntmps27
    go_wp2_with fail
    have hb1 := below_alloc (Below.refl _ w) (.cells #[.int .i64 k, .bool o, .slice An ns.length cn, .slice Ai its.length ci, .int .i64 sz, .slice Ae ex.length ce, .string tg] 33)
    have hb2 := below_alloc hb1 (.cells #[.int .i64 4096] 3)
    have L2 := Av.mk (Blk.new (w.alloc (.cells #[.int .i64 k, .bool o, .slice An ns.length cn, .slice Ai its.length ci, .int .i64 sz, .slice Ae ex.length ce, .string tg] 33)) 3 #[.int .i64 4096])
    have hsz : (w.alloc (.cells #[.int .i64 k, .bool o, .slice An ns.length cn, .slice Ai its.length ci, .int .i64 sz, .slice Ae ex.length ce, .string tg] 33)).heap.size = w.heap.size + 1 := by simp
    rw [hsz] at L2
    have R2 := Av.mk (H.out.grow hb2)
    have HCC := Av.mk (HC.out B _ _ 0 4096 (w.heap.size + 1) R2.out (fun k hk e => by have := HBB.out k hk; omega) L2.out (by omega) (by omega) (by omega) (by omega))
    rw [HRR.out] at HCC
    refine HCC.out.mono ?_
    rintro e w3 ⟨rfl, _, hk3⟩
    have HB3 : Av (Below w.heap.size w w3) := ⟨hb2.trans (hk3.below (by simp; omega) (by rintro k rfl; omega))⟩
    clear hk3 hb1 hb2
    go_wp2_with fail
    go_ret
    exact ⟨retb HR2.out, HB3.out⟩
  · have t2 : (k == 2) = false := by simpa using hk
    have HR2 : Av (R = false) := ⟨by rw [HR.out, t2]; simp⟩
    clear hk
    go_enter Tryd.func27, Tryd.ntmps27
    go_wp2_with fail
    go_ret
    exact ⟨retb HR2.out, below_alloc (below_alloc (Below.refl _ w) _) _⟩
def CountC (t : T) : Prop := ∀ (B : Nat → Prop) (w : World) (p : NV), Rep B w p t → Calls Tryd.prog 23 #[nodeV p t] w (RetB (.int .i64 (t.count : Int)) w)
theorem T.countL_take {l : List T} {j : Nat} {u : T} (h : l[j]? = some u) : T.countL (l.take (j + 1)) = T.countL (l.take j) + u.count := by
  rw [List.take_add_one, h, Option.toList_some, T.countL_snoc]
theorem T.countL_le : ∀ (l : List T) (j : Nat), T.countL (l.take j) ≤ T.countL l
  | [], j => by simp
  | x :: l, 0 => by simp [T.countL]
  | x :: l, j + 1 => by
    have := T.countL_le l j
    simp [T.countL]
    omega
theorem T.count_mem {l : List T} {u : T} (h : u ∈ l) : u.count ≤ T.countL l := by
  induction l with
  | nil => cases h
  | cons x l ih =>
    rcases List.mem_cons.1 h with rfl | h
    · simp [T.countL]
    · have := ih h
      simp [T.countL]
      omega
theorem T.count_pos (t : T) : 1 ≤ t.count := by rw [T.count_eq]; omega
theorem T.len_le_countL : ∀ l : List T, l.length ≤ T.countL l
  | [] => by simp
  | x :: l => by
    have := T.len_le_countL l
    have := x.count_pos
    simp [T.countL]
    omega
set_option maxHeartbeats 2000000 in
theorem count_calls (t : T) : t.count ≤ 1000000000 → CountC t := by
  induction t using T.ind with
  | h t ih =>
    intro hc B w p h
    have H := Av.mk h
    obtain ⟨An, cn, Ai, ci, Ae, ce, rfl⟩ := h.parts
    rw [T.count_eq] at hc
    have HT := Av.mk (T.count_eq t)
    generalize T.count t = N at *
    obtain ⟨k, o, ns, its, sz, ex, tg⟩ := t
    show Calls Tryd.prog 23 #[.agg #[.int .i64 k, .bool o, .slice An ns.length cn, .slice Ai its.length ci, .int .i64 sz, .slice Ae ex.length ce, .string tg]] w _
    simp only [T.items] at hc ih HT
    have hlen := T.len_le_countL its
    have HIH : Av (∀ u ∈ its, CountC u) := ⟨fun u hu => ih u hu (by have := T.count_mem hu; omega)⟩
    have HI := Av.mk h.items
    simp only [T.items] at HI
    clear ih h H
    go_enter Tryd.func23, Tryd.ntmps23
    go_wp2_with fail
    have hb1 := below_alloc (Below.refl _ w) (.cells #[.int .i64 k, .bool o, .slice An ns.length cn, .slice Ai its.length ci, .int .i64 sz, .slice Ae ex.length ce, .string tg] 33)
    go_loopw [3, 9] (fun s3 i wr => ∃ (j : Nat), j ≤ its.length ∧ i = .int .i64 j ∧ s3 = .int .i64 ((1 + T.countL (its.take j) : Nat) : Int) ∧ Below w.heap.size w wr) (fun _ i _ => its.length - (intOf i).toNat)
    case atStart => exact ⟨0, Nat.zero_le _, rfl, by simp [T.countL], hb1⟩
    case round =>
      obtain ⟨j, hj, rfl, rfl, hb⟩ := hrel
      have HB := Av.mk hb
      have hle := T.countL_le its j
      clear hb hb1
      by_cases hlt : j < its.length
      · obtain ⟨u, hu⟩ : ∃ u, its[j]? = some u := ⟨_, List.getElem?_eq_getElem hlt⟩
        obtain ⟨b, off, q, rfl, hBb, hbl, hcp, c0, c1, c2, c3, c4, c5, c6, hq⟩ := (HI.out.grow HB.out).elem hu
        obtain ⟨Bn, dn, Bi, di, Be, de, rfl⟩ := hq.parts
        have hsum := T.countL_take hu
        have hle2 := T.countL_le its (j + 1)
        have hba := below_alloc (Below.refl _ wr) (.cells (nodeC ⟨.slice Bn u.names.length dn, .slice Bi u.items.length di, .slice Be u.exts.length de⟩ u).toArray 33)
        have HCu := Av.mk (HIH.out u (List.mem_of_getElem? hu) B _ _ (hq.grow hba))
        have HB2 := Av.mk (below_then HB.out HB.out.size hba)
        rw [hsum] at hle2
        have HS := Av.mk hsum
        clear hq hu hba hsum
        generalize T.count u = M at *
        generalize T.countL (its.take j) = C at *
        obtain ⟨uk, uo, uns, uits, usz, uex, utg⟩ := u
        simp only [T.kind, T.opq, T.names, T.items, T.size, T.exts, T.target] at c0 c1 c2 c3 c4 c5 c6
        go_wp2_with fail
        refine HCu.out.mono ?_
        rintro e w3 ⟨rfl, hb3⟩
        have HB3 := Av.mk (below_then HB2.out HB2.out.size hb3)
        clear hb3
        go_wp2_with fail
        go_roundw
        case rel => exact ⟨j + 1, by omega, by go_num, by rw [HS.out]; congr 1; omega, HB3.out⟩
        case measure => simp [intOf]; omega
      · obtain rfl : j = its.length := by omega
        have HE : Av (N = 1 + T.countL (its.take its.length)) := ⟨by rw [List.take_length]; exact HT.out⟩
        go_wp2_with fail
        go_ret
        exact ⟨by rw [HE.out]; congr 2, HB.out⟩
end Go.Proofs.YtkmojgdjapfbbaaDoor
