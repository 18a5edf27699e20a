/- socageref04: all, Count, Depth, Right. -/
import Derived.Test.YtkmojgdjapfbbaaDoorOo
import Derived.Test.YtkmojgdjapfbbaaDoorSw
namespace Go.Proofs.YtkmojgdjapfbbaaDoor
open Go.RowKit Go.Maps
set_option linter.unusedSimpArgs false
set_option linter.unusedVariables false

def AllC (t : T) : Prop := ∀ (B : Nat → Prop) (w : World) (p : NV), Rep B w p t → Calls Tryd.prog 50 #[nodeV p t] w (RetB (.bool t.all) w)
theorem allL_drop {l : List T} {j : Nat} {u : T} (h : l[j]? = some u) : T.allL (l.drop j) = (u.all && T.allL (l.drop (j + 1))) := by rw [drop_at h]; rfl
set_option maxHeartbeats 4000000 in
theorem all_calls (t : T) : Sz t → AllC t := by
  induction t using T.ind with
  | h t ih =>
    intro hz B w p h
    have HO := Av.mk (fun (w' : World) (h : Rep B w' p t) => one_calls h hz)
    obtain ⟨_, hl1, hl2, hl3, hs, hx, hg, hr⟩ := hz
    have HIH : Av (∀ u ∈ t.items, AllC u) := ⟨fun u hu => ih u hu (hr u hu)⟩
    have H := Av.mk h
    have HI := Av.mk h.items
    obtain ⟨An, cn, Ai, ci, Ae, ce, rfl⟩ := h.parts
    have HT := Av.mk (T.all_eq t)
    generalize T.all t = R at *
    generalize T.one t = ob at *
    obtain ⟨k, o, ns, its, sz, ex, tg⟩ := t
    show Calls Tryd.prog 50 #[.agg #[.int .i64 k, .bool o, .slice An ns.length cn, .slice Ai its.length ci, .int .i64 sz, .slice Ae ex.length ce, .string tg]] w _
    simp only [T.items] at HI HIH HT hl2
    clear ih h hs hx hr
    go_enter Tryd.func50, Tryd.ntmps50
    go_wp2_with fail
    have hb1 := below_alloc (Below.refl _ w) (.cells #[.int .i64 k, .bool o, .slice An ns.length cn, .slice Ai its.length ci, .int .i64 sz, .slice Ae ex.length ce, .string tg] 33)
    have X := Av.mk (Blk.new w 33 #[.int .i64 k, .bool o, .slice An ns.length cn, .slice Ai its.length ci, .int .i64 sz, .slice Ae ex.length ce, .string tg])
    have HB1 : Av (Bel w (w.alloc (.cells #[.int .i64 k, .bool o, .slice An ns.length cn, .slice Ai its.length ci, .int .i64 sz, .slice Ae ex.length ce, .string tg] 33))) := ⟨hb1⟩
    have H1 := Av.mk (H.out.grow hb1)
    have HI1 := Av.mk (HI.out.grow hb1)
    clear H HI hb1
    generalize w.alloc (.cells #[.int .i64 k, .bool o, .slice An ns.length cn, .slice Ai its.length ci, .int .i64 sz, .slice Ae ex.length ce, .string tg] 33) = w1 at *
    generalize w.heap.size = g at *
    go_loopw [3] (fun s3 wr => ∃ (j : Nat), j ≤ its.length ∧ s3 = .int .i64 j ∧ Bel w1 wr ∧ Av (R = (T.allL (its.drop j) && ob))) (fun s3 _ => its.length - (intOf s3).toNat)
    case atStart => exact ⟨0, Nat.zero_le _, rfl, Below.refl _ _, ⟨HT.out⟩⟩
    case round =>
      obtain ⟨j, hj, rfl, hb, HX⟩ := hrel
      have HB := Av.mk hb
      have X2 := Av.mk (X.out.keep (Keep.of_below (S := fun _ => False) hb) (by simp))
      have HI2 := Av.mk (HI1.out.grow hb)
      have H2 := Av.mk (H1.out.grow hb)
      have HB2 : Av (Bel w wr) := ⟨below_then HB1.out (Below.size HB1.out) hb⟩
      clear hb
      have c3 := X2.out.cell 3
      have lx := X2.out.lt
      simp at c3
      by_cases hlt : j < its.length
      · obtain ⟨u, hu⟩ : ∃ u, its[j]? = some u := ⟨_, List.getElem?_eq_getElem hlt⟩
        obtain ⟨b, off, q, rfl, hBb, hbl, hcp, d0, d1, d2, d3, d4, d5, d6, hq⟩ := HI2.out.elem hu
        obtain ⟨Bn, dn, Bi, di, Be, de, rfl⟩ := hq.parts
        have HCu := Av.mk (HIH.out u (List.mem_of_getElem? hu) B _ _ hq)
        have hw := HX.out
        rw [allL_drop hu] at hw
        have HX2 := Av.mk hw
        clear hq hu hw HX
        generalize T.all u = ub at *
        obtain ⟨uk, uo, uns, uits, usz, uex, utg⟩ := u
        simp only [T.kind, T.opq, T.names, T.items, T.size, T.exts, T.target] at d0 d1 d2 d3 d4 d5 d6
        cases ub
        · have HF : Av (R = false) := ⟨by rw [HX2.out]; rfl⟩
          go_wp2_with fail
          refine HCu.out.mono ?_
          rintro e w3 ⟨rfl, hb3⟩
          have HB3 : Av (Bel w w3) := ⟨below_then HB2.out (Below.size HB2.out) hb3⟩
          clear hb3
          go_wp2_with fail
          go_ret
          exact ⟨retb HF.out, HB3.out⟩
        · have HX3 : Av (R = (T.allL (its.drop (j + 1)) && ob)) := ⟨by rw [HX2.out]; simp⟩
          go_wp2_with fail
          refine HCu.out.mono ?_
          rintro e w3 ⟨rfl, hb3⟩
          have HB3 : Av (Bel w1 w3) := ⟨below_then HB.out (Below.size HB.out) hb3⟩
          clear hb3
          go_wp2_with fail
          go_roundw
          case rel => exact ⟨j + 1, by omega, by go_num, HB3.out, HX3⟩
          case measure => simp [intOf]; omega
      · obtain rfl : j = its.length := by omega
        have hw := HX.out
        rw [List.drop_length] at hw
        have HF : Av (R = ob) := ⟨by rw [hw]; simp [T.allL]⟩
        clear hw
        have HC := Av.mk (HO.out wr H2.out)
        have c0 := X2.out.cell 0; have c1 := X2.out.cell 1; have c2 := X2.out.cell 2; have c4 := X2.out.cell 4; have c5 := X2.out.cell 5; have c6 := X2.out.cell 6
        simp at c0 c1 c2 c4 c5 c6
        go_wp2_with fail
        refine HC.out.mono ?_
        rintro e w3 ⟨rfl, hb3⟩
        have HB3 : Av (Bel w w3) := ⟨below_then HB2.out (Below.size HB2.out) hb3⟩
        clear hb3
        go_wp2_with fail
        go_ret
        exact ⟨retb HF.out, HB3.out⟩
def Count2C (t : T) : Prop := ∀ (B : Nat → Prop) (w : World) (p : NV), Rep B w p t → Calls Tryd.prog 51 #[nodeV p t] w (RetB (.int .i64 (t.count : Int)) w)
set_option maxHeartbeats 2000000 in
theorem count2_calls (t : T) : t.count ≤ 1000000000 → Count2C t := by
  induction t using T.ind with
  | h t ih =>
    intro hc B w p h
    obtain ⟨An, cn, Ai, ci, Ae, ce, rfl⟩ := h.parts
    rw [T.count_eq] at hc
    have HT := Av.mk (T.count_eq t)
    generalize T.count t = N at *
    have HI := Av.mk h.items
    clear h
    obtain ⟨k, o, ns, its, sz, ex, tg⟩ := t
    show Calls Tryd.prog 51 #[.agg #[.int .i64 k, .bool o, .slice An ns.length cn, .slice Ai its.length ci, .int .i64 sz, .slice Ae ex.length ce, .string tg]] w _
    simp only [T.items] at hc ih HT HI
    have hlen := T.len_le_countL its
    have HIH : Av (∀ u ∈ its, Count2C u) := ⟨fun u hu => ih u hu (by have := T.count_mem hu; omega)⟩
    clear ih
    go_enter Tryd.func51, Tryd.ntmps51
    go_wp2_with fail
    have hb1 := below_alloc (Below.refl _ w) (.cells #[.int .i64 k, .bool o, .slice An ns.length cn, .slice Ai its.length ci, .int .i64 sz, .slice Ae ex.length ce, .string tg] 33)
    have X := Av.mk (Blk.new w 33 #[.int .i64 k, .bool o, .slice An ns.length cn, .slice Ai its.length ci, .int .i64 sz, .slice Ae ex.length ce, .string tg])
    have HB1 : Av (Bel w (w.alloc (.cells #[.int .i64 k, .bool o, .slice An ns.length cn, .slice Ai its.length ci, .int .i64 sz, .slice Ae ex.length ce, .string tg] 33))) := ⟨hb1⟩
    have HI1 := Av.mk (HI.out.grow hb1)
    clear HI hb1
    generalize w.alloc (.cells #[.int .i64 k, .bool o, .slice An ns.length cn, .slice Ai its.length ci, .int .i64 sz, .slice Ae ex.length ce, .string tg] 33) = w1 at *
    generalize w.heap.size = g at *
    go_loopw [3, 4] (fun s3 s4 wr => ∃ (j : Nat), j ≤ its.length ∧ s4 = .int .i64 j ∧ s3 = .int .i64 ((1 + T.countL (its.take j) : Nat) : Int) ∧ Bel w1 wr) (fun _ i _ => its.length - (intOf i).toNat)
    case atStart => exact ⟨0, Nat.zero_le _, rfl, by simp [T.countL], Below.refl _ _⟩
    case round =>
      obtain ⟨j, hj, rfl, rfl, hb⟩ := hrel
      have HB := Av.mk hb
      have X2 := Av.mk (X.out.keep (Keep.of_below (S := fun _ => False) hb) (by simp))
      have HI2 := Av.mk (HI1.out.grow hb)
      have HB2 : Av (Bel w wr) := ⟨below_then HB1.out (Below.size HB1.out) hb⟩
      clear hb
      have c3 := X2.out.cell 3
      have lx := X2.out.lt
      simp at c3
      have hle := T.countL_le its j
      by_cases hlt : j < its.length
      · obtain ⟨u, hu⟩ : ∃ u, its[j]? = some u := ⟨_, List.getElem?_eq_getElem hlt⟩
        obtain ⟨b, off, q, rfl, hBb, hbl, hcp, d0, d1, d2, d3, d4, d5, d6, hq⟩ := HI2.out.elem hu
        obtain ⟨Bn, dn, Bi, di, Be, de, rfl⟩ := hq.parts
        have hsum := T.countL_take hu
        have hle2 := T.countL_le its (j + 1)
        have HCu := Av.mk (HIH.out u (List.mem_of_getElem? hu) B _ _ hq)
        rw [hsum] at hle2
        have HS := Av.mk hsum
        clear hq hu hsum
        generalize T.count u = M at *
        generalize T.countL (its.take j) = C at *
        obtain ⟨uk, uo, uns, uits, usz, uex, utg⟩ := u
        simp only [T.kind, T.opq, T.names, T.items, T.size, T.exts, T.target] at d0 d1 d2 d3 d4 d5 d6
        go_wp2_with fail
        refine HCu.out.mono ?_
        rintro e w3 ⟨rfl, hb3⟩
        have HB3 : Av (Bel w1 w3) := ⟨below_then HB.out (Below.size HB.out) hb3⟩
        clear hb3
        go_wp2_with fail
        go_roundw
        case rel => exact ⟨j + 1, by omega, by go_num, by rw [HS.out]; congr 1; omega, HB3.out⟩
        case measure => simp [intOf]; omega
      · obtain rfl : j = its.length := by omega
        have HE : Av (N = 1 + T.countL (its.take its.length)) := ⟨by rw [List.take_length]; exact HT.out⟩
        go_wp2_with fail
        go_ret
        exact ⟨by rw [HE.out]; congr 2, HB2.out⟩
def DepthC (t : T) : Prop := ∀ (B : Nat → Prop) (w : World) (p : NV), Rep B w p t → Calls Tryd.prog 52 #[nodeV p t] w (RetB (.int .i64 (t.depth : Int)) w)
theorem T.depthL_take {l : List T} {j : Nat} {u : T} (h : l[j]? = some u) : T.depthL (l.take (j + 1)) = max (T.depthL (l.take j)) (u.depth + 1) := by
  rw [List.take_add_one, h, Option.toList_some, T.depthL_snoc]
set_option maxHeartbeats 2000000 in
theorem depth_calls (t : T) : t.count ≤ 1000000000 → DepthC t := by
  induction t using T.ind with
  | h t ih =>
    intro hc B w p h
    obtain ⟨An, cn, Ai, ci, Ae, ce, rfl⟩ := h.parts
    rw [T.count_eq] at hc
    have HT := Av.mk (T.depth_eq t)
    generalize T.depth t = N at *
    have HI := Av.mk h.items
    clear h
    obtain ⟨k, o, ns, its, sz, ex, tg⟩ := t
    show Calls Tryd.prog 52 #[.agg #[.int .i64 k, .bool o, .slice An ns.length cn, .slice Ai its.length ci, .int .i64 sz, .slice Ae ex.length ce, .string tg]] w _
    simp only [T.items] at hc ih HT HI
    have hlen := T.len_le_countL its
    have HIH : Av (∀ u ∈ its, DepthC u ∧ u.depth < 1000000000) := ⟨fun u hu => by have := T.count_mem hu; exact ⟨ih u hu (by omega), by have := u.depth_lt_count; omega⟩⟩
    clear ih
    go_enter Tryd.func52, Tryd.ntmps52
    go_wp2_with fail
    have hb1 := below_alloc (Below.refl _ w) (.cells #[.int .i64 k, .bool o, .slice An ns.length cn, .slice Ai its.length ci, .int .i64 sz, .slice Ae ex.length ce, .string tg] 33)
    have X := Av.mk (Blk.new w 33 #[.int .i64 k, .bool o, .slice An ns.length cn, .slice Ai its.length ci, .int .i64 sz, .slice Ae ex.length ce, .string tg])
    have HB1 : Av (Bel w (w.alloc (.cells #[.int .i64 k, .bool o, .slice An ns.length cn, .slice Ai its.length ci, .int .i64 sz, .slice Ae ex.length ce, .string tg] 33))) := ⟨hb1⟩
    have HI1 := Av.mk (HI.out.grow hb1)
    clear HI hb1
    generalize w.alloc (.cells #[.int .i64 k, .bool o, .slice An ns.length cn, .slice Ai its.length ci, .int .i64 sz, .slice Ae ex.length ce, .string tg] 33) = w1 at *
    generalize w.heap.size = g at *
    go_loopw [3, 4] (fun s3 s4 wr => ∃ (j : Nat), j ≤ its.length ∧ s4 = .int .i64 j ∧ s3 = .int .i64 (T.depthL (its.take j) : Int) ∧ Bel w1 wr) (fun _ i _ => its.length - (intOf i).toNat)
    case atStart => exact ⟨0, Nat.zero_le _, rfl, by simp [T.depthL], Below.refl _ _⟩
    case round =>
      obtain ⟨j, hj, rfl, rfl, hb⟩ := hrel
      have HB := Av.mk hb
      have X2 := Av.mk (X.out.keep (Keep.of_below (S := fun _ => False) hb) (by simp))
      have HI2 := Av.mk (HI1.out.grow hb)
      have HB2 : Av (Bel w wr) := ⟨below_then HB1.out (Below.size HB1.out) hb⟩
      clear hb
      have c3 := X2.out.cell 3
      have lx := X2.out.lt
      simp at c3
      by_cases hlt : j < its.length
      · obtain ⟨u, hu⟩ : ∃ u, its[j]? = some u := ⟨_, List.getElem?_eq_getElem hlt⟩
        obtain ⟨b, off, q, rfl, hBb, hbl, hcp, d0, d1, d2, d3, d4, d5, d6, hq⟩ := HI2.out.elem hu
        obtain ⟨Bn, dn, Bi, di, Be, de, rfl⟩ := hq.parts
        have HS := Av.mk (T.depthL_take hu)
        have HCu := Av.mk ((HIH.out u (List.mem_of_getElem? hu)).1 B _ _ hq)
        have hud := (HIH.out u (List.mem_of_getElem? hu)).2
        clear hq hu
        generalize T.depth u = M at *
        generalize T.depthL (its.take j) = C at *
        obtain ⟨uk, uo, uns, uits, usz, uex, utg⟩ := u
        simp only [T.kind, T.opq, T.names, T.items, T.size, T.exts, T.target] at d0 d1 d2 d3 d4 d5 d6
        by_cases hcm : C < M + 1
        · go_wp2_with fail
          refine HCu.out.mono ?_
          rintro e w3 ⟨rfl, hb3⟩
          have HB3 : Av (Bel w1 w3) := ⟨below_then HB.out (Below.size HB.out) hb3⟩
          clear hb3
          go_wp2_with fail
          go_roundw
          case rel => exact ⟨j + 1, by omega, by go_num, by rw [HS.out]; congr 1; omega, HB3.out⟩
          case measure => simp [intOf]; omega
        · go_wp2_with fail
          refine HCu.out.mono ?_
          rintro e w3 ⟨rfl, hb3⟩
          have HB3 : Av (Bel w1 w3) := ⟨below_then HB.out (Below.size HB.out) hb3⟩
          clear hb3
          go_wp2_with fail
          go_roundw
          case rel => exact ⟨j + 1, by omega, by go_num, by rw [HS.out]; congr 1; omega, HB3.out⟩
          case measure => simp [intOf]; omega
      · obtain rfl : j = its.length := by omega
        have HE : Av (N = T.depthL (its.take its.length)) := ⟨by rw [List.take_length]; exact HT.out⟩
        go_wp2_with fail
        go_ret
        exact ⟨by rw [HE.out]; rfl, HB2.out⟩
set_option maxHeartbeats 1000000 in
/-- socageref04.Right of a small tree. -/
theorem RRight_calls {B : Nat → Prop} {w : World} {p : NV} {t : T} (h : Rep B w p t) (hz : Sz t) (hs : t.small = true) : Calls Tryd.prog 18 #[nodeV p t] w (RetB (.bool t.may) w) := by
  have H := Av.mk h
  have HA := Av.mk (all_calls t hz)
  have HW : Av (t.all = true → t.count ≤ 400) := ⟨fun ha => by have := T.small_wt hz hs ha; have := t.count_le_wt; omega⟩
  have HR : Av (t.may = ((t.kind == 2) && t.all && decide (t.count ≤ 4096) && decide (t.depth ≤ 15))) := ⟨rfl⟩
  have HC2 := Av.mk (count2_calls t)
  have HD2 := Av.mk (depth_calls t)
  obtain ⟨An, cn, Ai, ci, Ae, ce, rfl⟩ := h.parts
  clear hz hs h
  generalize t.may = R at *
  have HCN : Av (t.count ≤ 400 → t.depth ≤ 400) := ⟨fun h => by have := t.depth_lt_count; omega⟩
  unfold AllC at HA
  unfold Count2C at HC2
  unfold DepthC at HD2
  generalize t.all = al at *
  generalize t.count = cnt at *
  generalize t.depth = dp at *
  obtain ⟨k, o, ns, its, sz, ex, tg⟩ := t
  simp only [T.kind] at HR
  show Calls Tryd.prog 18 #[.agg #[.int .i64 k, .bool o, .slice An ns.length cn, .slice Ai its.length ci, .int .i64 sz, .slice Ae ex.length ce, .string tg]] w _
  by_cases hk : k = 2
  case neg =>
    have t1 : (k == 2) = false := by simpa using hk
    have HF : Av (R = false) := ⟨by rw [HR.out, t1]; rfl⟩
    clear hk
    go_enter Tryd.func18, Tryd.ntmps18
    go_wp2_with fail
    go_ret
    exact ⟨retb HF.out, below_alloc (Below.refl _ w) _⟩
  have t1 : (k == 2) = true := by simpa using hk
  have HF : Av (R = (al && decide (cnt ≤ 4096) && decide (dp ≤ 15))) := ⟨by rw [HR.out, t1]; simp⟩
  clear hk HR
  have hb1 := below_alloc (Below.refl _ w) (.cells #[.int .i64 k, .bool o, .slice An ns.length cn, .slice Ai its.length ci, .int .i64 sz, .slice Ae ex.length ce, .string tg] 33)
  have X := Av.mk (Blk.new w 33 #[.int .i64 k, .bool o, .slice An ns.length cn, .slice Ai its.length ci, .int .i64 sz, .slice Ae ex.length ce, .string tg])
  have HB1 : Av (Bel w (w.alloc (.cells #[.int .i64 k, .bool o, .slice An ns.length cn, .slice Ai its.length ci, .int .i64 sz, .slice Ae ex.length ce, .string tg] 33))) := ⟨hb1⟩
  have H1 := Av.mk (H.out.grow hb1)
  clear H hb1
  cases al
  case false =>
    have HFF : Av (R = false) := ⟨HF.out⟩
    go_enter Tryd.func18, Tryd.ntmps18
    go_wp2_with fail
    refine (HA.out B _ _ H1.out).mono ?_
    rintro e w3 ⟨rfl, hb3⟩
    have HB3 : Av (Bel w w3) := ⟨below_then HB1.out (Below.size HB1.out) hb3⟩
    clear hb3
    go_wp2_with fail
    go_ret
    exact ⟨retb HFF.out, HB3.out⟩
  have hcnt := HW.out rfl
  have hdp := HCN.out hcnt
  have t5 : decide (cnt ≤ 4096) = true := by simp; omega
  have HFF : Av (R = decide (dp ≤ 15)) := ⟨by rw [HF.out, t5]; simp⟩
  clear HF t5
  go_enter Tryd.func18, Tryd.ntmps18
  go_wp2_with fail
  refine (HA.out B _ _ H1.out).mono ?_
  rintro e w3 ⟨rfl, hb3⟩
  have HB3 : Av (Bel w w3) := ⟨below_then HB1.out (Below.size HB1.out) hb3⟩
  have H3 := Av.mk (H1.out.grow hb3)
  have X3 := Av.mk (X.out.keep (Keep.of_below (S := fun _ => False) hb3) (by simp))
  clear hb3 H1 X HA
  generalize w.heap.size = g at *
  have c0 := X3.out.cell 0; have c1 := X3.out.cell 1; have c2 := X3.out.cell 2; have c3 := X3.out.cell 3; have c4 := X3.out.cell 4; have c5 := X3.out.cell 5; have c6 := X3.out.cell 6
  have lx := X3.out.lt
  simp at c0 c1 c2 c3 c4 c5 c6
  go_wp2_with fail
  refine (HC2.out (by omega) B _ _ H3.out).mono ?_
  rintro e w4 ⟨rfl, hb4⟩
  have HB4 : Av (Bel w w4) := ⟨below_then HB3.out (Below.size HB3.out) hb4⟩
  have H4 := Av.mk (H3.out.grow hb4)
  have X4 := Av.mk (X3.out.keep (Keep.of_below (S := fun _ => False) hb4) (by simp))
  clear hb4 H3 X3 c0 c1 c2 c3 c4 c5 c6 lx
  have c0 := X4.out.cell 0; have c1 := X4.out.cell 1; have c2 := X4.out.cell 2; have c3 := X4.out.cell 3; have c4 := X4.out.cell 4; have c5 := X4.out.cell 5; have c6 := X4.out.cell 6
  have lx := X4.out.lt
  simp at c0 c1 c2 c3 c4 c5 c6
  go_wp2_with fail
  refine (HD2.out (by omega) B _ _ H4.out).mono ?_
  rintro e w5 ⟨rfl, hb5⟩
  have HB5 : Av (Bel w w5) := ⟨below_then HB4.out (Below.size HB4.out) hb5⟩
  clear hb5
  go_wp2_with fail
  go_ret
  exact ⟨retb (by first | exact HFF.out | (rw [HFF.out]; apply decide_eq_decide.2; omega)), HB5.out⟩
end Go.Proofs.YtkmojgdjapfbbaaDoor
