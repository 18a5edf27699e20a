/- socagelaw08: May, Stack. -/
import Derived.Test.YtkmojgdjapfbbaaDoorSee
import Derived.Test.YtkmojgdjapfbbaaDoorOa
namespace Go.Proofs.YtkmojgdjapfbbaaDoor
open Go.RowKit Go.Maps
set_option linter.unusedSimpArgs false
set_option linter.unusedVariables false

def T.ok (t : T) : Bool := t.small && t.may
def okL (l : List T) : Bool := l.all T.ok
theorem good_of {t : T} (hz : Sz t) (h : t.ok = true) : Good t := by
  unfold T.ok at h
  rw [Bool.and_eq_true] at h
  obtain ⟨h1, h2, h3⟩ := T.may_right hz h.1 h.2
  exact ⟨h1, fit_of t (by omega) h3, by omega⟩
def mayI (l : List T) : Int := if l.length ≤ 8 ∧ okL l = true then 1 else 0
theorem RepL.lt {w : World} {v : Value} {l : List T} (h : RepL (Lt w) w v l) {w' : World} (hb : Bel w w') : RepL (Lt w') w' v l := (h.grow hb).mono (fun k hk => Nat.lt_of_lt_of_le hk (Below.size hb))
set_option maxRecDepth 100000 in
set_option maxHeartbeats 4000000 in
theorem may_calls {w : World} {A : Option Addr} {c : Nat} {l : List T} (h : RepL (Lt w) w (.slice A l.length c) l) (hz : ∀ t ∈ l, Sz t) : Calls Tryd.prog 8 #[.slice A l.length c] w (RetB (.int .i64 (mayI l)) w) := by
  have HI := Av.mk h
  have HZ := Av.mk hz
  clear h hz
  obtain ⟨V, hV⟩ : ∃ V, mayI l = V := ⟨_, rfl⟩
  rw [hV]
  by_cases h8 : l.length ≤ 8
  case neg =>
    have HF : Av (V = 0) := ⟨by rw [← hV]; unfold mayI; rw [if_neg (by rintro ⟨h, _⟩; exact h8 h)]⟩
    have t1 : decide ((8 : Int) < (l.length : Int)) = true := by rw [decide_eq_true_eq]; omega
    clear hV
    go_enter Tryd.func8, Tryd.ntmps8
    go_wp2_with fail
    go_ret
    exact ⟨by rw [HF.out]; rfl, Below.refl _ _⟩
  have HV : Av ((if okL l = true then 1 else 0) = V) := ⟨by rw [← hV]; unfold mayI; by_cases h : okL l = true <;> simp [h, h8]⟩
  have t1 : decide ((8 : Int) < (l.length : Int)) = false := by rw [decide_eq_false_iff_not]; omega
  clear hV
  go_enter Tryd.func8, Tryd.ntmps8
  go_wp2_with fail
  go_loopw [10] (fun s10 wr => ∃ j : Nat, j ≤ l.length ∧ s10 = .int .i64 j ∧ Bel w wr ∧ Av (okL l = okL (l.drop j))) (fun s10 _ => l.length - (intOf s10).toNat)
  case atStart => exact ⟨0, Nat.zero_le _, rfl, Below.refl _ _, ⟨rfl⟩⟩
  case round =>
    obtain ⟨j, hj, rfl, hb, HX⟩ := hrel
    have HB := Av.mk hb
    have HI2 := Av.mk (HI.out.lt hb)
    clear hb
    by_cases hlt : j < l.length
    · obtain ⟨u, hu⟩ : ∃ u, l[j]? = some u := ⟨_, List.getElem?_eq_getElem hlt⟩
      obtain ⟨b, off, q, rfl, hBb, hbl, hcp, d0, d1, d2, d3, d4, d5, d6, hq⟩ := HI2.out.elem hu
      obtain ⟨Bn, dn, Bi, di, Be, de, rfl⟩ := hq.parts
      have hzu := HZ.out u (List.mem_of_getElem? hu)
      have HQ := Av.mk hq
      have hx := HX.out
      rw [drop_at hu] at hx
      have HX2 : Av (okL l = (u.ok && okL (l.drop (j + 1)))) := ⟨hx⟩
      have HSM : Av (∀ W, Bel wr W → Calls Tryd.prog 17 #[nodeV ⟨.slice Bn u.names.length dn, .slice Bi u.items.length di, .slice Be u.exts.length de⟩ u] W (RetB (.int .i64 (if u.small = true then 1 else 0)) W)) := ⟨fun W hW => Small_calls (HQ.out.grow hW) (fun k hk => Nat.lt_of_lt_of_le hk (Below.size hW)) hzu⟩
      have HRR : Av (∀ W, u.small = true → Bel wr W → Calls Tryd.prog 18 #[nodeV ⟨.slice Bn u.names.length dn, .slice Bi u.items.length di, .slice Be u.exts.length de⟩ u] W (RetB (.bool u.may) W)) := ⟨fun W hs hW => RRight_calls (HQ.out.grow hW) hzu hs⟩
      have HOK : Av (u.ok = (u.small && u.may)) := ⟨rfl⟩
      clear hx hq hu HX hzu
      generalize T.ok u = ok at *
      generalize T.small u = sm at *
      generalize T.may u = my at *
      obtain ⟨uk, uo, uns, uits, usz, uex, utg⟩ := u
      simp only [T.kind, T.opq, T.names, T.items, T.size, T.exts, T.target] at d0 d1 d2 d3 d4 d5 d6
      go_upto_region 6 with (fail)
      have hba := below_alloc (Below.refl _ wr) (.cells #[.int .i64 uk, .bool uo, .slice Bn uns.length dn, .slice Bi uits.length di, .int .i64 usz, .slice Be uex.length de, .string utg] 33)
      have Z2 := Av.mk (Blk.new wr 33 #[.int .i64 uk, .bool uo, .slice Bn uns.length dn, .slice Bi uits.length di, .int .i64 usz, .slice Be uex.length de, .string utg])
      have HBW : Av (Bel wr (wr.alloc (.cells #[.int .i64 uk, .bool uo, .slice Bn uns.length dn, .slice Bi uits.length di, .int .i64 usz, .slice Be uex.length de, .string utg] 33))) := ⟨hba⟩
      clear hba d0 d1 d2 d3 d4 d5 d6
      generalize wr.alloc (.cells #[.int .i64 uk, .bool uo, .slice Bn uns.length dn, .slice Bi uits.length di, .int .i64 usz, .slice Be uex.length de, .string utg] 33) = w2 at *
      generalize wr.heap.size = gz at *
      have z0 := Z2.out.cell 0; have z1 := Z2.out.cell 1; have z2 := Z2.out.cell 2; have z3 := Z2.out.cell 3; have z4 := Z2.out.cell 4; have z5 := Z2.out.cell 5; have z6 := Z2.out.cell 6
      have lz := Z2.out.lt
      simp at z0 z1 z2 z3 z4 z5 z6
      have HS2 := Av.mk (HSM.out _ HBW.out)
      cases sm
      · have HS3 : Av (Calls Tryd.prog 17 #[.agg #[.int .i64 uk, .bool uo, .slice Bn uns.length dn, .slice Bi uits.length di, .int .i64 usz, .slice Be uex.length de, .string utg]] w2 (RetB (.int .i64 0) w2)) := ⟨HS2.out⟩
        have HF : Av (V = 0) := ⟨by rw [← HV.out, HX2.out, HOK.out]; rfl⟩
        go_wp2_with fail
        refine HS3.out.mono ?_
        rintro e w3 ⟨rfl, hb3⟩
        have HB3 : Av (Bel w w3) := ⟨below_then HB.out (Below.size HB.out) (below_then HBW.out (Below.size HBW.out) hb3)⟩
        clear hb3
        go_wp2_with fail
        go_ret
        exact ⟨by rw [HF.out]; rfl, HB3.out⟩
      · have HS3 : Av (Calls Tryd.prog 17 #[.agg #[.int .i64 uk, .bool uo, .slice Bn uns.length dn, .slice Bi uits.length di, .int .i64 usz, .slice Be uex.length de, .string utg]] w2 (RetB (.int .i64 1) w2)) := ⟨HS2.out⟩
        go_wp2_with fail
        refine HS3.out.mono ?_
        rintro e w3 ⟨rfl, hb3⟩
        have HB3 : Av (Bel wr w3) := ⟨below_then HBW.out (Below.size HBW.out) hb3⟩
        have Z3 := Av.mk (Z2.out.keep (Keep.of_below (S := fun _ => False) hb3) (by simp))
        have HR3 := Av.mk (HRR.out _ trivial HB3.out)
        clear hb3 z0 z1 z2 z3 z4 z5 z6 lz
        have z0 := Z3.out.cell 0; have z1 := Z3.out.cell 1; have z2 := Z3.out.cell 2; have z3 := Z3.out.cell 3; have z4 := Z3.out.cell 4; have z5 := Z3.out.cell 5; have z6 := Z3.out.cell 6
        have lz := Z3.out.lt
        simp at z0 z1 z2 z3 z4 z5 z6
        cases my
        · have HF : Av (V = 0) := ⟨by rw [← HV.out, HX2.out, HOK.out]; rfl⟩
          go_wp2_with fail
          refine HR3.out.mono ?_
          rintro e w4 ⟨rfl, hb4⟩
          have HB4 : Av (Bel w w4) := ⟨below_then HB.out (Below.size HB.out) (below_then HB3.out (Below.size HB3.out) hb4)⟩
          clear hb4
          go_wp2_with fail
          go_ret
          exact ⟨by rw [HF.out]; rfl, HB4.out⟩
        · have HX3 : Av (okL l = okL (l.drop (j + 1))) := ⟨by rw [HX2.out, HOK.out]; simp⟩
          go_wp2_with fail
          refine HR3.out.mono ?_
          rintro e w4 ⟨rfl, hb4⟩
          have HB4 : Av (Bel w w4) := ⟨below_then HB.out (Below.size HB.out) (below_then HB3.out (Below.size HB3.out) hb4)⟩
          clear hb4
          go_wp2_with fail
          exact ⟨⟨j + 1, by omega, by go_num, HB4.out, HX3⟩, by simp [intOf]; omega⟩
    · obtain rfl : j = l.length := by omega
      have hx := HX.out
      rw [List.drop_length] at hx
      have HF : Av (V = 1) := ⟨by rw [← HV.out, hx]; rfl⟩
      clear hx
      go_wp2_with fail
      go_ret
      exact ⟨by rw [HF.out]; rfl, HB.out⟩
/-- A stack of trees. -/
def StackP (l : List T) (w : World) (e : Ending) (w' : World) : Prop :=
  ∃ A c ms, e = .returned (.tuple #[.agg #[.slice A l.length c, .int .i64 (l.length : Int)], .bool true]) ∧ StAt w' A c ms ∧ ms.length = l.length ∧ ms.map mtKey = stk l ∧ Bel w w'
theorem StOfP.opened {l : List T} {w : World} {e : Ending} {w' : World} (h : StOfP l w e w') : ∃ A c ms, e = .returned (.tuple #[.agg #[.slice A l.length c, .int .i64 (l.length : Int)], .int .i64 0]) ∧ StAt w' A c ms ∧ ms.length = l.length ∧ ms.map mtKey = stk l ∧ Bel w w' := by
  obtain ⟨A, c, ms, rfl, h1, h2, h3⟩ := h
  have hl : ms.length = l.length := by
    have h := congrArg List.length h2
    rwa [List.length_map, stk_len] at h
  exact ⟨A, c, ms, by rw [hl], h1, hl, h2, h3⟩
theorem two_set {w : World} {g : Nat} {t : TypeId} {c0 c1 : Value} (h : Blk w g t #[c0, c1]) (v0 v1 : Value) :
    Blk ((w.setCell ⟨g, 0, none⟩ v0).setCell ⟨g, 1, none⟩ v1) g t #[v0, v1] ∧ Keep (fun k => k = g) w ((w.setCell ⟨g, 0, none⟩ v0).setCell ⟨g, 1, none⟩ v1) :=
  ⟨by simpa using (h.set_ 0 v0).set_ 1 v1, ((Keep.refl (fun k => k = g) w).setCell (p := ⟨g, 0, none⟩) (fun _ => rfl) v0).setCell (p := ⟨g, 1, none⟩) (fun _ => rfl) v1⟩
set_option maxRecDepth 100000 in
theorem stack_big {w : World} {A : Option Addr} {c n : Nat} (h8 : 8 < n) : Calls Tryd.prog 9 #[.slice A n c] w (RetB (.tuple #[.agg #[.slice none 0 0, .int .i64 0], .bool false]) w) := by
  have t1 : decide ((8 : Int) < (n : Int)) = true := by rw [decide_eq_true_eq]; omega
  have X0 := Av.mk (Blk.new w 28 #[.slice none 0 0, .int .i64 0])
  have HB0 : Av (Bel w (w.alloc (.cells #[.slice none 0 0, .int .i64 0] 28))) := ⟨below_alloc (Below.refl _ w) _⟩
  go_enter Tryd.func9, Tryd.ntmps9
  go_upto_region 1 with (fail)
  generalize w.alloc (.cells #[.slice none 0 0, .int .i64 0] 28) = w1 at *
  generalize hg : w.heap.size = g at *
  have HG := Av.mk hg
  have lx := X0.out.lt
  clear hg
  go_wp2_with (first | (refine wpList_putB rfl 28 (.tmp 2) (.tmp 11) rfl g 28 _ _ rfl rfl (by kernel_rfl) X0.out rfl (by simp [Value.oneCell']) ?_; intro w3 hb3 hk3; have HB3 := Av.mk hb3; have HK3 := Av.mk hk3; clear hb3 hk3))
  have e0 := HB3.out.cell 0; have e1 := HB3.out.cell 1
  simp at e0 e1
  refine bodyPost_ret (v := .tuple #[.agg #[.slice none 0 0, .int .i64 0], .bool false]) (by simp [results, Tryd.results9, go_sem, e0, e1]) rfl ?_
  have h1 : Below w.heap.size w w1 := HB0.out
  exact ⟨rfl, h1.trans (HK3.out.below (by have := HG.out; omega) (fun k h => by have := HG.out; omega))⟩
set_option maxRecDepth 100000 in
set_option maxHeartbeats 4000000 in
theorem stack_calls {w : World} {A : Option Addr} {c : Nat} {l : List T} (h : RepL (Lt w) w (.slice A l.length c) l) (hz : ∀ t ∈ l, Sz t) (h8 : l.length ≤ 8) (hok : okL l = true) : Calls Tryd.prog 9 #[.slice A l.length c] w (StackP l w) := by
  have HOKA : Av (∀ t ∈ l, t.ok = true) := ⟨fun t ht => List.all_eq_true.1 hok t ht⟩
  have HZ := Av.mk hz
  have t1 : decide ((8 : Int) < (l.length : Int)) = false := by rw [decide_eq_false_iff_not]; omega
  have X0 := Av.mk (Blk.new w 28 #[.slice none 0 0, .int .i64 0])
  have HB0 : Av (Bel w (w.alloc (.cells #[.slice none 0 0, .int .i64 0] 28))) := ⟨below_alloc (Below.refl _ w) _⟩
  have HI := Av.mk (h.lt HB0.out)
  have HOF : Av (∀ W, Bel (w.alloc (.cells #[.slice none 0 0, .int .i64 0] 28)) W → Calls Tryd.prog 37 #[.slice A l.length c] W (StOfP l W)) := ⟨fun W hW => of_calls (HI.out.lt hW) (fun k hk => hk) (by omega) (fun t ht => good_of (hz t ht) (HOKA.out t ht))⟩
  clear h hz hok
  go_enter Tryd.func9, Tryd.ntmps9
  go_upto_region 1 with (fail)
  generalize w.alloc (.cells #[.slice none 0 0, .int .i64 0] 28) = w1 at *
  generalize hg : w.heap.size = g at *
  have HG := Av.mk hg
  clear hg
  go_wp2_with fail
  go_loopw [14] (fun s14 wr => ∃ j : Nat, j ≤ l.length ∧ s14 = .int .i64 j ∧ Bel w1 wr) (fun s14 _ => l.length - (intOf s14).toNat)
  case atStart => exact ⟨0, Nat.zero_le _, rfl, Below.refl _ _⟩
  case round =>
    obtain ⟨j, hj, rfl, hb⟩ := hrel
    have HB := Av.mk hb
    have HI2 := Av.mk (HI.out.lt hb)
    clear hb
    by_cases hlt : j < l.length
    · obtain ⟨u, hu⟩ : ∃ u, l[j]? = some u := ⟨_, List.getElem?_eq_getElem hlt⟩
      obtain ⟨b, off, q, rfl, hBb, hbl, hcp, d0, d1, d2, d3, d4, d5, d6, hq⟩ := HI2.out.elem hu
      obtain ⟨Bn, dn, Bi, di, Be, de, rfl⟩ := hq.parts
      have hzu := HZ.out u (List.mem_of_getElem? hu)
      have hoku := HOKA.out u (List.mem_of_getElem? hu)
      unfold T.ok at hoku
      rw [Bool.and_eq_true] at hoku
      have HQ := Av.mk hq
      have HSM : Av (∀ W, Bel wr W → Calls Tryd.prog 17 #[nodeV ⟨.slice Bn u.names.length dn, .slice Bi u.items.length di, .slice Be u.exts.length de⟩ u] W (RetB (.int .i64 1) W)) := ⟨fun W hW => by
        have h1 := Small_calls (HQ.out.grow hW) (fun k hk => Nat.lt_of_lt_of_le hk (Below.size hW)) hzu
        rw [if_pos hoku.1] at h1
        exact h1⟩
      have HRR : Av (∀ W, Bel wr W → Calls Tryd.prog 18 #[nodeV ⟨.slice Bn u.names.length dn, .slice Bi u.items.length di, .slice Be u.exts.length de⟩ u] W (RetB (.bool true) W)) := ⟨fun W hW => by
        have h1 := RRight_calls (HQ.out.grow hW) hzu hoku.1
        rw [hoku.2] at h1
        exact h1⟩
      clear hq hu hzu hoku
      obtain ⟨uk, uo, uns, uits, usz, uex, utg⟩ := u
      simp only [T.kind, T.opq, T.names, T.items, T.size, T.exts, T.target] at d0 d1 d2 d3 d4 d5 d6
      go_upto_region 6 with (fail)
      have hba := below_alloc (Below.refl _ wr) (.cells #[.int .i64 uk, .bool uo, .slice Bn uns.length dn, .slice Bi uits.length di, .int .i64 usz, .slice Be uex.length de, .string utg] 33)
      have Z2 := Av.mk (Blk.new wr 33 #[.int .i64 uk, .bool uo, .slice Bn uns.length dn, .slice Bi uits.length di, .int .i64 usz, .slice Be uex.length de, .string utg])
      have HBW : Av (Bel wr (wr.alloc (.cells #[.int .i64 uk, .bool uo, .slice Bn uns.length dn, .slice Bi uits.length di, .int .i64 usz, .slice Be uex.length de, .string utg] 33))) := ⟨hba⟩
      clear hba d0 d1 d2 d3 d4 d5 d6
      generalize wr.alloc (.cells #[.int .i64 uk, .bool uo, .slice Bn uns.length dn, .slice Bi uits.length di, .int .i64 usz, .slice Be uex.length de, .string utg] 33) = w2 at *
      generalize wr.heap.size = gz at *
      have z0 := Z2.out.cell 0; have z1 := Z2.out.cell 1; have z2 := Z2.out.cell 2; have z3 := Z2.out.cell 3; have z4 := Z2.out.cell 4; have z5 := Z2.out.cell 5; have z6 := Z2.out.cell 6
      have lz := Z2.out.lt
      simp at z0 z1 z2 z3 z4 z5 z6
      have HS2 := Av.mk (HSM.out _ HBW.out)
      go_wp2_with fail
      refine HS2.out.mono ?_
      rintro e w3 ⟨rfl, hb3⟩
      have HB3 : Av (Bel wr w3) := ⟨below_then HBW.out (Below.size HBW.out) hb3⟩
      have Z3 := Av.mk (Z2.out.keep (Keep.of_below (S := fun _ => False) hb3) (by simp))
      have HR3 := Av.mk (HRR.out _ HB3.out)
      clear hb3 z0 z1 z2 z3 z4 z5 z6 lz
      have z0 := Z3.out.cell 0; have z1 := Z3.out.cell 1; have z2 := Z3.out.cell 2; have z3 := Z3.out.cell 3; have z4 := Z3.out.cell 4; have z5 := Z3.out.cell 5; have z6 := Z3.out.cell 6
      have lz := Z3.out.lt
      simp at z0 z1 z2 z3 z4 z5 z6
      go_wp2_with fail
      refine HR3.out.mono ?_
      rintro e w4 ⟨rfl, hb4⟩
      have HB4 : Av (Bel w1 w4) := ⟨below_then HB.out (Below.size HB.out) (below_then HB3.out (Below.size HB3.out) hb4)⟩
      clear hb4
      go_wp2_with fail
      exact ⟨⟨j + 1, by omega, by go_num, HB4.out⟩, by simp [intOf]; omega⟩
    · obtain rfl : j = l.length := by omega
      have X2 := Av.mk (X0.out.keep (Keep.of_below (S := fun _ => False) HB.out) (by simp))
      go_wp2_with fail
      refine (HOF.out wr HB.out).mono ?_
      intro e w3 hp
      obtain ⟨A3, c3, ms, rfl, hst, hml, hmap, hb3⟩ := hp.opened
      have HST := Av.mk hst
      have HMM := Av.mk (And.intro hml hmap)
      have HB3 : Av (Bel w1 w3) := ⟨below_then HB.out (Below.size HB.out) hb3⟩
      have X3 := Av.mk (X2.out.keep (Keep.of_below (S := fun _ => False) hb3) (by simp))
      clear hp hst hml hmap hb3 X2
      go_upto_region 10 with (fail)
      have hba := below_alloc (Below.refl _ w3) (.cells #[.slice A3 l.length c3, .int .i64 (l.length : Int)] 28)
      have Y4 := Av.mk (Blk.new w3 28 #[.slice A3 l.length c3, .int .i64 (l.length : Int)])
      have X4 := Av.mk (X3.out.keep (Keep.of_below (S := fun _ => False) hba) (by simp))
      have HST4 := Av.mk (HST.out.grow hba)
      have HB4 : Av (Bel w1 (w3.alloc (.cells #[.slice A3 l.length c3, .int .i64 (l.length : Int)] 28))) := ⟨below_then HB3.out (Below.size HB3.out) hba⟩
      have HGY : Av (w1.heap.size ≤ w3.heap.size) := ⟨Below.size HB3.out⟩
      clear hba X3 HST HB3
      generalize w3.alloc (.cells #[.slice A3 l.length c3, .int .i64 (l.length : Int)] 28) = w4 at *
      generalize hgy : w3.heap.size = gy at *
      clear hgy
      have HLC : Av (∀ W, Bel w4 W → Calls Tryd.prog 13 #[.agg #[.slice A3 l.length c3, .int .i64 (l.length : Int)]] W (fun e w' => e = .returned (.int .i64 (l.length : Int)) ∧ Bel W w' ∧ w'.cell? ⟨gy, 0, none⟩ = some (.slice A3 l.length c3) ∧ w'.cell? ⟨gy, 1, none⟩ = some (.int .i64 (l.length : Int)))) := ⟨fun W hW => (len_calls A3 l.length c3 _ W).mono fun e w' ⟨he, hb⟩ => by
        have hy := (Y4.out.keep (Keep.of_below (S := fun _ => False) hW) (by simp)).keep (Keep.of_below (S := fun _ => False) hb) (by simp)
        exact ⟨he, hb, hy.cell 0, hy.cell 1⟩⟩
      have y0 := Y4.out.cell 0
      have y1 := Y4.out.cell 1
      have ly := Y4.out.lt
      have x0 := X4.out.cell 0
      have x1 := X4.out.cell 1
      have f0 := X4.out.frozen 0
      have f1 := X4.out.frozen 1
      have lx := X4.out.lt
      simp at y0 y1 x0 x1
      have hggy : ¬ gy = g := by have h1 := X0.out.lt; have h2 := HGY.out; omega
      have hggy' : ¬ g = gy := fun h => hggy h.symm
      generalize hn : l.length = n at *
      have HN := Av.mk hn
      clear hn
      go_region_held3 (fun W => W.cell? ⟨gy, 0, none⟩ = some (.slice A3 n c3) ∧ W.cell? ⟨gy, 1, none⟩ = some (.int .i64 (n : Int))) (first | (exact ⟨by assumption, by assumption⟩) | go_keep)
        (first
        | (go_at_call 13
           refine Calls.mono (HLC.out _ (bel_drew w4)) ?_
           rintro e w5 ⟨rfl, hb5, hc0, hc1⟩
           have HB5 : Av (Bel w4 w5) := ⟨below_then (bel_drew w4) (Below.size (bel_drew w4)) hb5⟩
           have X5 := Av.mk (X4.out.drew.keep (Keep.of_below (S := fun _ => False) hb5) (by simp))
           have x50 := X5.out.cell 0
           have x51 := X5.out.cell 1
           have f50 := X5.out.frozen 0
           have f51 := X5.out.frozen 1
           have lx5 := X5.out.lt
           simp at x50 x51
           clear hb5))
      have h2s := two_set X5.out (.slice A3 n c3) (.int .i64 (n : Int))
      have H2K := Av.mk h2s.2
      have e0 := h2s.1.cell 0
      have e1 := h2s.1.cell 1
      simp only [List.getElem?_toArray, List.getElem?_cons_zero, List.getElem?_cons_succ] at e0 e1
      clear h2s x0 x1 f0 f1 lx x50 x51 f50 f51 lx5 y0 y1 hc0 hc1
      generalize (w5.setCell ⟨g, 0, none⟩ (.slice A3 n c3)).setCell ⟨g, 1, none⟩ (.int .i64 (n : Int)) = w6 at *
      go_wp2_with fail
      refine bodyPost_ret (v := .tuple #[.agg #[.slice A3 n c3, .int .i64 (n : Int)], .bool true]) (by simp [results, Tryd.results9, go_sem, e0, e1]) rfl ?_
      have h1 : Below w.heap.size w w1 := HB0.out
      have h2 : Below w.heap.size w w5 := below_then h1 h1.size (below_then HB4.out (Below.size HB4.out) HB5.out)
      have hbel : Bel w w6 := h2.trans (H2K.out.below (by have := HG.out; have := h2.size; omega) (fun k h => by have := HG.out; omega))
      have hst6 := (HST4.out.grow HB5.out).keep (e := 28) H2K.out (by decide) (by decide) (by decide) (by decide) (by decide) (fun k h => by rw [h]; exact X5.out.isT)
      exact ⟨A3, c3, ms, by rw [HN.out], hst6, HMM.out.1.trans HN.out.symm, HMM.out.2, hbel⟩
end Go.Proofs.YtkmojgdjapfbbaaDoor
namespace Go.Proofs.YtkmojgdjapfbbaaDoor
open Go.RowKit Go.Maps
set_option linter.unusedSimpArgs false
set_option linter.unusedVariables false

theorem repL_new {w : World} {p : NV} {t : T} (h : Rep (Lt w) w p t) : RepL (Lt (w.alloc (.cells (nodeC p t).toArray 33))) (w.alloc (.cells (nodeC p t).toArray 33)) (.slice (some ⟨w.heap.size, 0, none⟩) 1 1) [t] := by
  have hb := below_alloc (Below.refl _ w) (.cells (nodeC p t).toArray 33)
  have hn := Blk.new w 33 (nodeC p t).toArray
  refine ⟨[p], rfl, ⟨rfl, .inr ⟨w.heap.size, 0, 1, rfl, Nat.le_refl _, hn.lt, hn.lt, fun i hi => ?_⟩⟩, fun i q u h1 h2 => ?_⟩
  · rw [Nat.zero_add, hn.cell i]
    simp [pairC]
  · cases i with
    | zero =>
      simp at h1 h2
      subst h1; subst h2
      exact (h.grow hb).mono (fun k hk => Nat.lt_of_lt_of_le hk hb.size)
    | succ i => simp at h1
theorem sl_new (w : World) (s : ByteArray) : Sl (Lt (w.alloc (.cells #[.string s] 9))) (w.alloc (.cells #[.string s] 9)) 1 (.slice (some ⟨w.heap.size, 0, none⟩) 1 1) 1 [.string s] := by
  have hn := Blk.new w 9 #[.string s]
  refine ⟨rfl, .inr ⟨w.heap.size, 0, 1, rfl, Nat.le_refl _, hn.lt, hn.lt, fun i hi => ?_⟩⟩
  rw [Nat.zero_add, hn.cell i]
  simp
theorem ordered_xsz : ∀ {E : List Ext} {a e : Nat}, Ordered a E e → a + xsz (E.map toI) ≤ e
  | [], a, e, h => by simpa [xsz, Ordered] using h
  | x :: E, a, e, ⟨h1, h2, h3⟩ => by
    have ih := ordered_xsz h3
    unfold Ext.fin at ih
    simp only [List.map_cons, xsz, List.sum_cons, toI] at ih ⊢
    omega
abbrev aS : ByteArray := ⟨#[97]⟩
abbrev xS : ByteArray := ⟨#[120]⟩
theorem one_good {E : List Ext} (hE : OfInv xS.data.toList xS.size E) (hl : E.length ≤ xS.size) : Good (dirT [aS] [textT xS E]) := by
  have hlt : letters 1 = [aS] := by decide
  have hf : FilesT [xS] [textT xS E] := by
    have := FilesT.nil.snoc (s := xS) (E := E) (by decide) hE hl
    simpa using this
  have h1 := files_right hf (by decide)
  have h2 := files_fit hf (by decide)
  simp only [List.length_singleton] at h1 h2
  rw [hlt] at h1 h2
  refine ⟨h1, h2, ?_⟩
  have h3 := ordered_xsz hE.ord
  have h4 : xS.size = 1 := rfl
  simp only [dirT, textT, T.wt, T.wtL, List.length_map, List.length_singleton, List.length_nil]
  have h5 : xsz ([] : List IExt) = 0 := rfl
  have h6 : (⟨#[]⟩ : ByteArray).size = 0 := rfl
  rw [h5, h6]
  omega
set_option maxRecDepth 100000 in
set_option maxHeartbeats 4000000 in
theorem one_top (w : World) : Calls Tryd.prog 7 #[] w (RetB (.bool true) w) := by
  go_enter Tryd.func7, Tryd.ntmps7
  go_wp2_with fail
  have HB1 : Av (Bel w (w.alloc (.cells #[.string aS] 9))) := ⟨below_alloc (Below.refl _ w) _⟩
  have HA1 := Av.mk (sl_new w aS)
  have HTX := Av.mk (fun W => Text_calls xS W (by decide))
  generalize w.alloc (.cells #[.string aS] 9) = w1 at *
  generalize hg : w.heap.size = g at *
  clear hg
  refine (HTX.out w1).mono ?_
  intro e w2 hp
  obtain ⟨Bn, bn, Bi, bi, Be, be, E, rfl, hr, hinv, hl, hb2⟩ := hp.opened
  have HR2 : Av (Rep (Lt w2) w2 ⟨.slice Bn 0 bn, .slice Bi 0 bi, .slice Be E.length be⟩ (textT xS E)) := ⟨hr.mono (fun k hk => hk.lt)⟩
  have HGD := Av.mk (one_good hinv hl)
  have HB2 : Av (Bel w w2) := ⟨below_then HB1.out (Below.size HB1.out) hb2⟩
  have HA2 := Av.mk ((HA1.out.grow hb2).mono (B' := Lt w2) (fun k hk => Nat.lt_of_lt_of_le hk hb2.size))
  clear hp hr hinv hl hb2 HA1 HTX
  go_wp2_with fail
  have e3 : (nodeC ⟨.slice Bn 0 bn, .slice Bi 0 bi, .slice Be E.length be⟩ (textT xS E)).toArray = #[.int .i64 1, .bool false, .slice Bn 0 bn, .slice Bi 0 bi, .int .i64 1, .slice Be E.length be, .string ⟨#[]⟩] := rfl
  have hrl := repL_new HR2.out
  rw [e3] at hrl
  have hba := below_alloc (Below.refl _ w2) (.cells #[.int .i64 1, .bool false, .slice Bn 0 bn, .slice Bi 0 bi, .int .i64 1, .slice Be E.length be, .string ⟨#[]⟩] 33)
  have HDR := Av.mk (Dir_calls (Lt (w2.alloc (.cells #[.int .i64 1, .bool false, .slice Bn 0 bn, .slice Bi 0 bi, .int .i64 1, .slice Be E.length be, .string ⟨#[]⟩] 33))) _ (some ⟨g, 0, none⟩) (some ⟨w2.heap.size, 0, none⟩) 1 1 [aS] [textT xS E] ((HA2.out.grow hba).mono (fun k hk => Nat.lt_of_lt_of_le hk hba.size)) hrl (by decide) (by simp))
  have HB3 : Av (Bel w (w2.alloc (.cells #[.int .i64 1, .bool false, .slice Bn 0 bn, .slice Bi 0 bi, .int .i64 1, .slice Be E.length be, .string ⟨#[]⟩] 33))) := ⟨below_then HB2.out (Below.size HB2.out) hba⟩
  clear hba hrl e3 HR2 HA2
  refine HDR.out.mono ?_
  intro e w4 hp
  obtain ⟨Cn, cn, Ci, ci, Ce, ce, rfl, hr4, hb4⟩ := hp.opened
  have HB4 : Av (Bel w w4) := ⟨below_then HB3.out (Below.size HB3.out) hb4⟩
  have HR4 : Av (Rep (Lt w4) w4 ⟨.slice Cn 1 cn, .slice Ci 1 ci, .slice Ce 0 ce⟩ (dirT [aS] [textT xS E])) := ⟨hr4⟩
  clear hp hr4 hb4 HDR HB3
  go_wp2_with fail
  have e5 : (nodeC ⟨.slice Cn 1 cn, .slice Ci 1 ci, .slice Ce 0 ce⟩ (dirT [aS] [textT xS E])).toArray = #[.int .i64 2, .bool false, .slice Cn 1 cn, .slice Ci 1 ci, .int .i64 0, .slice Ce 0 ce, .string ⟨#[]⟩] := rfl
  have hrl := repL_new HR4.out
  rw [e5] at hrl
  have hba := below_alloc (Below.refl _ w4) (.cells #[.int .i64 2, .bool false, .slice Cn 1 cn, .slice Ci 1 ci, .int .i64 0, .slice Ce 0 ce, .string ⟨#[]⟩] 33)
  have HOF := Av.mk (of_calls (l := [dirT [aS] [textT xS E]]) hrl (fun k hk => hk) (by simp) (fun t ht => by rw [List.mem_singleton.1 ht]; exact HGD.out))
  have HB5 : Av (Bel w (w4.alloc (.cells #[.int .i64 2, .bool false, .slice Cn 1 cn, .slice Ci 1 ci, .int .i64 0, .slice Ce 0 ce, .string ⟨#[]⟩] 33))) := ⟨below_then HB4.out (Below.size HB4.out) hba⟩
  clear hba hrl e5 HR4
  refine HOF.out.mono ?_
  intro e w6 hp
  obtain ⟨A6, c6, ms, rfl, _, _, _, hb6⟩ := hp.opened
  have HB6 : Av (Bel w w6) := ⟨below_then HB5.out (Below.size HB5.out) hb6⟩
  clear hp hb6 HOF HB5
  have HLC := Av.mk (fun W => len_calls A6 1 c6 1 W)
  go_wp2_with fail
  refine (HLC.out _).mono ?_
  rintro e w7 ⟨rfl, hb7⟩
  have HB7 : Av (Bel w w7) := ⟨below_then (HB6.out.alloc (Below.size HB6.out) _) (by have := Below.size HB6.out; simp; omega) hb7⟩
  clear hb7
  go_wp2_with fail
  go_ret
  exact ⟨rfl, HB7.out⟩
def T.opaque : T → T | .node k _ ns its sz ex tg => .node k true ns its sz ex tg
theorem Rep.opaque {B : Nat → Prop} {w : World} {p : NV} {t : T} (h : Rep B w p t) : Rep B w p t.opaque := by
  have h1 := h.names
  have h2 := h.exts
  have h3 := h.items
  obtain ⟨k, o, ns, its, sz, ex, tg⟩ := t
  exact Rep.of h1 h2 h3
set_option maxRecDepth 100000 in
theorem opq_calls (a0 : Int) (a1 : Bool) (A2 A3 A5 : Option Addr) (n2 c2 n3 c3 n5 c5 : Nat) (a4 : Int) (a6 : ByteArray) (w : World) :
    Calls Tryd.prog 11 #[.agg #[.int .i64 a0, .bool a1, .slice A2 n2 c2, .slice A3 n3 c3, .int .i64 a4, .slice A5 n5 c5, .string a6]] w (RetB (.agg #[.int .i64 a0, .bool true, .slice A2 n2 c2, .slice A3 n3 c3, .int .i64 a4, .slice A5 n5 c5, .string a6]) w) := by
  have hba := below_alloc (below_alloc (Below.refl _ w) (.cells #[.int .i64 a0, .bool a1, .slice A2 n2 c2, .slice A3 n3 c3, .int .i64 a4, .slice A5 n5 c5, .string a6] 33)) (.cells #[.int .i64 0, .bool false, .slice none 0 0, .slice none 0 0, .int .i64 0, .slice none 0 0, .string ⟨#[]⟩] 33)
  have X1 := Av.mk ((Blk.new w 33 #[.int .i64 a0, .bool a1, .slice A2 n2 c2, .slice A3 n3 c3, .int .i64 a4, .slice A5 n5 c5, .string a6]).alloc (.cells #[.int .i64 0, .bool false, .slice none 0 0, .slice none 0 0, .int .i64 0, .slice none 0 0, .string ⟨#[]⟩] 33))
  have Y1 := Av.mk (Blk.new (w.alloc (.cells #[.int .i64 a0, .bool a1, .slice A2 n2 c2, .slice A3 n3 c3, .int .i64 a4, .slice A5 n5 c5, .string a6] 33)) 33 #[.int .i64 0, .bool false, .slice none 0 0, .slice none 0 0, .int .i64 0, .slice none 0 0, .string ⟨#[]⟩])
  have hz1 : (w.alloc (.cells #[.int .i64 a0, .bool a1, .slice A2 n2 c2, .slice A3 n3 c3, .int .i64 a4, .slice A5 n5 c5, .string a6] 33)).heap.size = w.heap.size + 1 := by simp
  rw [hz1] at Y1
  have HB1 : Av (Bel w ((w.alloc (.cells #[.int .i64 a0, .bool a1, .slice A2 n2 c2, .slice A3 n3 c3, .int .i64 a4, .slice A5 n5 c5, .string a6] 33)).alloc (.cells #[.int .i64 0, .bool false, .slice none 0 0, .slice none 0 0, .int .i64 0, .slice none 0 0, .string ⟨#[]⟩] 33))) := ⟨hba⟩
  clear hba hz1
  go_enter Tryd.func11, Tryd.ntmps11
  go_upto_region 1 with (fail)
  generalize (w.alloc (.cells #[.int .i64 a0, .bool a1, .slice A2 n2 c2, .slice A3 n3 c3, .int .i64 a4, .slice A5 n5 c5, .string a6] 33)).alloc (.cells #[.int .i64 0, .bool false, .slice none 0 0, .slice none 0 0, .int .i64 0, .slice none 0 0, .string ⟨#[]⟩] 33) = w1 at *
  generalize hg : w.heap.size = g at *
  have HG := Av.mk hg
  clear hg
  have x1 := X1.out.cell 1
  have f1 := X1.out.frozen 1
  have lx := X1.out.lt
  simp at x1
  go_upto_region 2 with (fail)
  have X2 : Av (Blk (w1.setCell ⟨g, 1, none⟩ (.bool true)) g 33 #[.int .i64 a0, .bool true, .slice A2 n2 c2, .slice A3 n3 c3, .int .i64 a4, .slice A5 n5 c5, .string a6]) := ⟨by
    have := X1.out.set_ 1 (.bool true)
    simpa using this⟩
  have K2 := Av.mk ((Keep.refl (fun k => k = g) w1).setCell (p := ⟨g, 1, none⟩) (fun _ => rfl) (.bool true))
  have Y2 := Av.mk (Y1.out.keep K2.out (by omega))
  clear x1 f1 lx
  generalize w1.setCell ⟨g, 1, none⟩ (.bool true) = w2 at *
  have c0 := X2.out.cell 0; have c1 := X2.out.cell 1; have c2' := X2.out.cell 2; have c3' := X2.out.cell 3; have c4 := X2.out.cell 4; have c5' := X2.out.cell 5; have c6 := X2.out.cell 6
  have lx := X2.out.lt
  have ly := Y2.out.lt
  simp at c0 c1 c2' c3' c4 c5' c6
  go_wp2_with (first | (refine wpList_putB rfl 33 (.tmp 2) (.tmp 4) rfl (g + 1) 33 _ _ rfl rfl (by kernel_rfl) Y2.out rfl (by simp [Value.oneCell']) ?_; intro w3 hb3 hk3; have HB3 := Av.mk hb3; have HK3 := Av.mk hk3; clear hb3 hk3))
  have e0 := HB3.out.cell 0; have e1 := HB3.out.cell 1; have e2 := HB3.out.cell 2; have e3 := HB3.out.cell 3; have e4 := HB3.out.cell 4; have e5 := HB3.out.cell 5; have e6 := HB3.out.cell 6
  simp at e0 e1 e2 e3 e4 e5 e6
  refine bodyPost_ret (v := .agg #[.int .i64 a0, .bool true, .slice A2 n2 c2, .slice A3 n3 c3, .int .i64 a4, .slice A5 n5 c5, .string a6]) (by simp [results, Tryd.results11, go_sem, e0, e1, e2, e3, e4, e5, e6]) rfl ?_
  have h1 : Below w.heap.size w w1 := HB1.out
  have h2 := h1.size
  have h3 := HG.out
  exact ⟨rfl, (h1.trans (K2.out.below (by omega) (fun k h => by omega))).trans (HK3.out.below (by have := K2.out.size; omega) (fun k h => by omega))⟩
end Go.Proofs.YtkmojgdjapfbbaaDoor
namespace Go.Proofs.YtkmojgdjapfbbaaDoor
open Go.RowKit Go.Maps
set_option linter.unusedSimpArgs false
set_option linter.unusedVariables false

theorem one_names {t : T} (h : t.one = true) : Rising t.names ∧ t.names.length = t.items.length := by
  have hnil : ∀ l : List ByteArray, l.length = 0 → Rising l := fun l hl i j a b _ ha => by
    rw [List.length_eq_zero_iff.1 hl] at ha
    simp at ha
  obtain ⟨k, o, ns, its, sz, ex, tg⟩ := t
  rw [T.one_node] at h
  simp only [T.names, T.items]
  have hnone : T.noneB (.node k o ns its sz ex tg) = true → Rising ns ∧ ns.length = its.length := fun hn => by
    have n1 := T.noneB_iff hn
    simp only [T.opq, T.names, T.items] at n1
    exact ⟨hnil ns n1.2.1, by omega⟩
  by_cases hk : k = 1
  · rw [if_pos hk] at h
    simp only [Bool.and_eq_true] at h
    exact hnone h.1.1
  rw [if_neg hk] at h
  by_cases hk2 : k = 2
  · rw [if_pos hk2] at h
    simp only [Bool.and_eq_true] at h
    have h4 := h.2
    unfold T.namesOk at h4
    simp only [T.names, T.items, Bool.and_eq_true, decide_eq_true_eq] at h4
    exact ⟨(nmB_rising _ _ h4.1).1, of_decide_eq_true h4.2⟩
  rw [if_neg hk2] at h
  by_cases hk3 : k = 3
  · rw [if_pos hk3] at h
    simp only [Bool.and_eq_true] at h
    exact hnone h.1.1.1
  rw [if_neg hk3] at h
  by_cases hk4 : k = 4
  · rw [if_pos hk4] at h
    simp only [Bool.and_eq_true] at h
    exact hnone h.1.1
  · rw [if_neg hk4] at h; cases h
theorem rows_ok (t : T) : t.all = true → t.wt ≤ 1000000 → ∀ n, ∀ x ∈ t.rows n, InoOk x := by
  induction t using T.ind with
  | h t ih =>
    intro ha hw n x hx
    rw [T.all_eq, Bool.and_eq_true] at ha
    have hn := one_names ha.2
    have he := T.wt_eq t
    have hL : ∀ l : List T, (∀ u ∈ l, u ∈ t.items) → ∀ n, ∀ x ∈ T.rowsL n l, InoOk x := by
      intro l
      induction l with
      | nil => intro _ n x h; simp [T.rowsL] at h
      | cons u l ih2 =>
        intro hm n x h
        simp only [T.rowsL, List.mem_append] at h
        have hu := hm u (by simp)
        rcases h with h | h
        · exact ih u hu (T.allL_mem ha.1 hu) (by have := T.wt_mem hu; omega) n x h
        · exact ih2 (fun v hv => hm v (List.mem_cons_of_mem _ hv)) _ x h
    obtain ⟨k, o, ns, its, sz, ex, tg⟩ := t
    simp only [T.names, T.items] at hn hL he
    simp only [T.rows, List.mem_cons] at hx
    rcases hx with rfl | hx
    · exact ⟨hn.1, by simp only [T.idsL_len]; exact hn.2, by simp only; omega⟩
    · exact hL its (fun _ h => h) _ x hx
theorem inoAt_ok {xs : List Ino} (h : ∀ x ∈ xs, InoOk x) (i : Nat) : InoOk (inoAt xs i) := by
  unfold inoAt
  cases hx : xs[i]? with
  | none => exact InoOk.zero
  | some x => exact h x (List.mem_of_getElem? hx)
theorem T.ok_all {t : T} (hz : Sz t) (h : t.ok = true) : t.all = true ∧ t.wt ≤ 1000000 := by
  unfold T.ok T.may at h
  simp only [Bool.and_eq_true] at h
  have ha := h.2.1.1.2
  have := T.small_wt hz h.1 ha
  exact ⟨ha, by omega⟩
theorem stk_mem {l : List T} {p : Nat × List Ino} (h : p ∈ stk l) : ∃ t ∈ l, p.2 = t.rows 0 := by
  unfold stk at h
  rw [List.mem_reverse] at h
  have h2 := List.of_mem_zip h
  obtain ⟨t, ht, e⟩ := List.mem_map.1 h2.2
  exact ⟨t, ht, e.symm⟩
theorem oks_of {l : List T} {ms : List Mt} (hm : ms.map mtKey = stk l) (hz : ∀ t ∈ l, Sz t) (hok : okL l = true) : Oks ms := by
  intro m hmm i
  have h1 : mtKey m ∈ stk l := by rw [← hm]; exact List.mem_map.2 ⟨m, hmm, rfl⟩
  obtain ⟨t, ht, e⟩ := stk_mem h1
  have h2 := T.ok_all (hz t ht) (List.all_eq_true.1 hok t ht)
  have e2 : m.xs = t.rows 0 := e
  rw [e2]
  exact inoAt_ok (rows_ok t h2.1 h2.2 0) i
theorem xs_of {l : List T} {ms : List Mt} (hm : ms.map mtKey = stk l) : ms.map Mt.xs = (stk l).map (·.2) := by
  rw [← hm, List.map_map]
  rfl
/-- The row of a directory without entries. -/
def bare (o : Bool) : List Ino := [⟨2, o, [], 0, ⟨#[]⟩, []⟩]
theorem bare_rows : (dirT [] []).rows 0 = bare false ∧ (dirT [] []).opaque.rows 0 = bare true := ⟨rfl, rfl⟩
theorem bare_look (o : Bool) (s : ByteArray) : lookI (bare o) 0 s = none := rfl
def shiftP (P : List (Nat × Nat)) : List (Nat × Nat) := P.map fun p => (p.1 + 1, p.2)
theorem rootP_shift (r : Nat) : rootP (1 + r) = (0, 0) :: shiftP (rootP r) := by
  unfold rootP shiftP
  rw [Nat.add_comm, List.range_succ_eq_map]
  simp
/-- What is found one level lower. -/
def Up (f g : Fd) : Prop := g.kind = f.kind ∧ (f.kind ≠ 0 → g.lv = f.lv + 1 ∧ g.ino = f.ino)
theorem Up.zero : Up Fd.zero Fd.zero := ⟨rfl, fun h => absurd rfl h⟩
theorem seen_up (x : List Ino) (S : List (List Ino)) (s : ByteArray) : ∀ (P : List (Nat × Nat)) (f g : Fd), Up f g → Up (seenL S s P f) (seenL (x :: S) s (shiftP P) g)
  | [], f, g, h => h
  | p :: P, f, g, h => by
    have ih := seen_up x S s P
    simp only [shiftP, List.map_cons] at ih ⊢
    simp only [seenL, List.getElem?_cons_succ]
    cases hx : S[p.1]? with
    | none => exact ih f g h
    | some xs =>
      simp only
      cases hl : lookI xs p.2 s with
      | none => exact ih f g h
      | some k =>
        simp only
        have hk := h.1
        by_cases h2 : (inoAt xs k).kind = 2
        · rw [if_pos h2, if_pos h2]
          have hif : Up (if f.kind = 0 then ⟨2, p.1, k⟩ else f) (if g.kind = 0 then ⟨2, p.1 + 1, k⟩ else g) := by
            rw [hk]
            by_cases h0 : f.kind = 0
            · rw [if_pos h0, if_pos h0]; exact ⟨rfl, fun _ => ⟨rfl, rfl⟩⟩
            · rw [if_neg h0, if_neg h0]; exact h
          by_cases ho : (inoAt xs k).opq = true
          · rw [if_pos ho, if_pos ho]; exact hif
          · rw [if_neg ho, if_neg ho]; exact ih _ _ hif
        · rw [if_neg h2, if_neg h2, hk]
          by_cases h0 : f.kind = 0 ∧ (inoAt xs k).kind ≠ 4
          · rw [if_pos h0, if_pos h0]; exact ⟨rfl, fun _ => ⟨rfl, rfl⟩⟩
          · rw [if_neg h0, if_neg h0]; exact h
theorem seen_lv (S : List (List Ino)) (s : ByteArray) (b : Nat) : ∀ (P : List (Nat × Nat)) (f : Fd), (∀ p ∈ P, p.1 ≤ b) → f.lv ≤ b → (seenL S s P f).lv ≤ b
  | [], f, _, h => h
  | p :: P, f, hp, h => by
    have ih := fun f => seen_lv S s b P f (fun q hq => hp q (List.mem_cons_of_mem _ hq))
    have hpb := hp p (by simp)
    simp only [seenL]
    cases hx : S[p.1]? with
    | none => exact ih f h
    | some xs =>
      simp only
      cases hl : lookI xs p.2 s with
      | none => exact ih f h
      | some k =>
        simp only
        have hif : (if f.kind = 0 then (⟨2, p.1, k⟩ : Fd) else f).lv ≤ b := by split <;> assumption
        split
        · split
          · exact hif
          · exact ih _ hif
        · split
          · exact hpb
          · exact h
theorem rootN_le : ∀ S : List (List Ino), rootN S ≤ S.length
  | [] => Nat.le_refl _
  | xs :: S => by
    have := rootN_le S
    simp only [rootN, List.length_cons]
    split <;> omega
/-- An empty branch above changes nothing but the levels. -/
theorem upper_law (S : List (List Ino)) (s : ByteArray) : Up (seenL S s (rootP (rootN S)) Fd.zero) (seenL (bare false :: S) s (rootP (rootN (bare false :: S))) Fd.zero) := by
  have h1 : rootN (bare false :: S) = 1 + rootN S := rfl
  rw [h1, rootP_shift]
  have h2 : seenL (bare false :: S) s ((0, 0) :: shiftP (rootP (rootN S))) Fd.zero = seenL (bare false :: S) s (shiftP (rootP (rootN S))) Fd.zero := by
    simp only [seenL, List.getElem?_cons_zero, bare_look]
  rw [h2]
  exact seen_up _ S s _ _ _ Up.zero
/-- An opaque one hides all. -/
theorem hidden_law (S : List (List Ino)) (s : ByteArray) : seenL (bare true :: S) s (rootP (rootN (bare true :: S))) Fd.zero = Fd.zero := by
  have h1 : rootN (bare true :: S) = 1 := rfl
  rw [h1]
  have h2 : rootP 1 = [(0, 0)] := rfl
  rw [h2]
  simp only [seenL, List.getElem?_cons_zero, bare_look]
theorem root_lv (S : List (List Ino)) (s : ByteArray) : (seenL S s (rootP (rootN S)) Fd.zero).lv ≤ S.length := by
  refine seen_lv S s S.length _ _ (fun p hp => ?_) (Nat.zero_le _)
  unfold rootP at hp
  obtain ⟨k, hk, rfl⟩ := List.mem_map.1 hp
  have := List.mem_range.1 hk
  have := rootN_le S
  simp only
  omega
theorem bare_ok : (dirT [] []).ok = true ∧ (dirT [] []).opaque.ok = true := by
  have h1 : nmB none [] = true := rfl
  have e : (⟨#[]⟩ : ByteArray).toList = [] := by rw [toList_eq]
  have e0 : (⟨#[]⟩ : ByteArray).size = 0 := rfl
  constructor <;>
  · unfold T.ok T.small T.may
    simp [dirT, T.opaque, T.sm, T.smL, own49, xsub, T.names, T.exts, T.target, T.kind, T.all, T.allL, T.one, T.emptyB, T.size, T.items, T.namesOk, nmB, T.count, T.countL, T.depth, T.depthL, wrap64, e, e0]
theorem bare_sz : Sz (dirT [] []) ∧ Sz (dirT [] []).opaque :=
  ⟨.mk _ (by simp [dirT, T.names]) (by simp [dirT, T.items]) (by simp [dirT, T.exts]) (by simp [dirT, T.names]) (by simp [dirT, T.exts]) (by simp only [dirT, T.target]; exact Nat.zero_le _) (by simp [dirT, T.items]),
   .mk _ (by simp [dirT, T.opaque, T.names]) (by simp [dirT, T.opaque, T.items]) (by simp [dirT, T.opaque, T.exts]) (by simp [dirT, T.opaque, T.names]) (by simp [dirT, T.opaque, T.exts]) (by simp only [dirT, T.opaque, T.target]; exact Nat.zero_le _) (by simp [dirT, T.opaque, T.items])⟩
end Go.Proofs.YtkmojgdjapfbbaaDoor
namespace Go.Proofs.YtkmojgdjapfbbaaDoor
open Go.RowKit Go.Maps
set_option linter.unusedSimpArgs false
set_option linter.unusedVariables false

/-- A local stack of trees and one more. -/
def TopAt (w : World) (g : Nat) (b : Bool) (l : List T) (E : T) : Prop :=
  ∃ A c n m, Blk w g 28 #[.slice A n c, .int .i64 m] ∧ (l.length ≤ 7 → b = true ∧ n = l.length + 1 ∧ m = ((l.length + 1 : Nat) : Int) ∧ ∃ ms : List Mt, ms.length = n ∧ StAt w A c ms ∧ ms.map mtKey = stk (l ++ [E]))
theorem TopAt.grow {w w' : World} {g : Nat} {b : Bool} {l : List T} {E : T} (h : TopAt w g b l E) (hb : Bel w w') : TopAt w' g b l E := by
  obtain ⟨A, c, n, m, h1, h2⟩ := h
  refine ⟨A, c, n, m, h1.keep (Keep.of_below (S := fun _ => False) hb) (by simp), fun hl => ?_⟩
  obtain ⟨e1, e2, e3, ms, h3, h4, h5⟩ := h2 hl
  exact ⟨e1, e2, e3, ms, h3, h4.grow hb, h5⟩
/-- Stack, of eight or of nine. -/
def StackQ (l : List T) (E : T) (w : World) (e : Ending) (w' : World) : Prop :=
  ∃ A c n m b, e = .returned (.tuple #[.agg #[.slice A n c, .int .i64 m], .bool b]) ∧ Bel w w' ∧ (l.length ≤ 7 → b = true ∧ n = l.length + 1 ∧ m = ((l.length + 1 : Nat) : Int) ∧ ∃ ms : List Mt, ms.length = n ∧ StAt w' A c ms ∧ ms.map mtKey = stk (l ++ [E]))
theorem stack_any {w : World} {A : Option Addr} {c : Nat} {l : List T} {E : T} (h : RepL (Lt w) w (.slice A (l.length + 1) c) (l ++ [E])) (hz : ∀ t ∈ l, Sz t) (hE : Sz E) (hok : okL l = true) (hEo : E.ok = true) :
    Calls Tryd.prog 9 #[.slice A (l.length + 1) c] w (StackQ l E w) := by
  have hl : (l ++ [E]).length = l.length + 1 := by simp
  by_cases h7 : l.length ≤ 7
  · rw [← hl] at h ⊢
    refine (stack_calls h (fun t ht => ?_) (by omega) ?_).mono ?_
    · rcases List.mem_append.1 ht with ht | ht
      · exact hz t ht
      · rw [List.mem_singleton.1 ht]; exact hE
    · unfold okL at hok ⊢
      rw [List.all_append, hok]
      simp [hEo]
    · rintro e w' ⟨A', c', ms, rfl, h1, h2, h3, h4⟩
      exact ⟨A', c', _, _, true, rfl, h4, fun _ => ⟨rfl, hl, by rw [hl], ms, h2, h1, h3⟩⟩
  · refine (stack_big (by omega)).mono ?_
    rintro e w' ⟨rfl, hb⟩
    exact ⟨_, _, _, _, _, rfl, hb, fun h => absurd h h7⟩
theorem repL_snoc {w : World} {base : Nat} {A : Option Addr} {c n : Nat} {l : List T} {ps : List NV} {p : NV} {E : T} (hn : n = l.length) (hps : ps.length = l.length) (hr : ∀ (i : Nat) (q : NV) (u : T), ps[i]? = some q → l[i]? = some u → Rep (Lt w) w q u) (hp : Rep (Lt w) w p E)
    (row : w.ownsRow base 33 7 (.slice A (n + 1) c) (n + 1) ((ps.zip l).flatMap pairC ++ nodeC p E)) : RepL (Lt w) w (.slice A (n + 1) c) (l ++ [E]) := by
  subst hn
  refine ⟨ps ++ [p], by simp [hps], ?_, fun i q u h1 h2 => ?_⟩
  · rw [List.zip_append hps, List.flatMap_append]
    have hl : (l ++ [E]).length = l.length + 1 := by simp
    rw [hl]
    have h1 : [p].zip [E] = [(p, E)] := rfl
    rw [h1]
    have h2 : List.flatMap pairC [(p, E)] = nodeC p E := by simp [pairC]
    rw [h2]
    exact Sl.of_row row (fun k hk => row_lt row k hk.symm)
  · rcases Nat.lt_or_ge i l.length with h | h
    · rw [List.getElem?_append_left (by omega)] at h1 h2
      exact hr i q u h1 h2
    · rw [List.getElem?_append_right (by omega)] at h1 h2
      rw [hps] at h1
      cases hi : i - l.length with
      | zero =>
        rw [hi] at h1 h2
        simp at h1 h2
        subst h1; subst h2
        exact hp
      | succ k =>
        rw [hi] at h1
        simp at h1
theorem zip_len {l : List T} {ps : List NV} (hps : ps.length = l.length) : ((ps.zip l).flatMap pairC).length = l.length * 7 := by
  rw [flat_length pairC 7 (fun _ => rfl), List.length_zip]
  congr 1
  omega
theorem row_empty (w : World) : (w.alloc (.cells #[] 33)).ownsRow w.heap.size 33 7 (.slice (some ⟨w.heap.size, 0, none⟩) 0 0) 0 [] :=
  ⟨rfl, .inr ⟨w.heap.size, 0, #[], rfl, Nat.le_refl _, heap_alloc_new w _, Nat.le_refl _, by unfold maxLen; omega, rfl, rfl⟩⟩
theorem repL_up {w w' : World} {l : List T} {ps : List NV} (hr : ∀ (i : Nat) (q : NV) (u : T), ps[i]? = some q → l[i]? = some u → Rep (Lt w) w q u) (hb : Bel w w') : ∀ (i : Nat) (q : NV) (u : T), ps[i]? = some q → l[i]? = some u → Rep (Lt w') w' q u :=
  fun i q u h1 h2 => ((hr i q u h1 h2).grow hb).mono (fun k hk => Nat.lt_of_lt_of_le hk (Below.size hb))
end Go.Proofs.YtkmojgdjapfbbaaDoor
