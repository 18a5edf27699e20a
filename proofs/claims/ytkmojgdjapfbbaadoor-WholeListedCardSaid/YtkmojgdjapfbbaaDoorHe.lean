/- heap.First, merge.Names, socageref09.Rises. -/
import Derived.Test.YtkmojgdjapfbbaaDoorHm
import Derived.Test.YtkmojgdjapfbbaaDoorNr
namespace Go.Proofs.YtkmojgdjapfbbaaDoor
open Go.RowKit Go.Maps
set_option linter.unusedSimpArgs false
set_option linter.unusedVariables false

/-- Of each name the first item. -/
def firstL : Option ByteArray → List (ByteArray × Nat) → List (ByteArray × Nat)
  | _, [] => []
  | q, x :: t => if q = some x.1 then firstL (some x.1) t else x :: firstL (some x.1) t
def prvN (l : List (ByteArray × Nat)) : Nat → Option ByteArray
  | 0 => none
  | k + 1 => l[k]?.map (·.1)
theorem itC_len (x : ByteArray × Nat) : (itC x).length = 2 := rfl
/-- One of a row of items. -/
theorem item_at {Q : Nat → Prop} {w : World} {A : Option Addr} {c k : Nat} {l : List (ByteArray × Nat)} {x : ByteArray × Nat} (h : Sl Q w 2 (.slice A l.length c) l.length (l.flatMap itC)) (hx : l[k]? = some x) :
    ∃ b off, A = some ⟨b, off, none⟩ ∧ b < w.heap.size ∧ l.length ≤ c ∧ w.cell? ⟨b, off + k * 2, none⟩ = some (.string x.1) ∧ w.cell? ⟨b, off + k * 2 + 1, none⟩ = some (.int .i64 (x.2 : Int)) := by
  obtain ⟨b, off, rfl, _, hb, hc, h0, hj⟩ := h.elem (f := itC) itC_len (by omega) hx
  have d1 := hj 1 (by omega)
  have d0 := hj 0 (by omega)
  exact ⟨b, off, rfl, hb, hc, by simpa [itC] using d0, by simpa [itC] using d1⟩
set_option maxRecDepth 100000 in
set_option maxHeartbeats 1000000 in
theorem first_calls {Q : Nat → Prop} {w : World} {A : Option Addr} {c : Nat} {l : List (ByteArray × Nat)} (h : Sl Q w 2 (.slice A l.length c) l.length (l.flatMap itC)) (hl : l.length ≤ 100000) :
    Calls Tryd.prog 36 #[.slice A l.length c] w (MergeP (firstL none l) w) := by
  obtain ⟨RES, hres⟩ : ∃ RES, firstL none l = RES := ⟨_, rfl⟩
  rw [hres]
  have HRES := Av.mk hres
  have H := Av.mk h
  obtain ⟨i76, hi76⟩ := info76
  have I76 := Av.mk hi76
  clear h hres hi76
  go_enter Tryd.func36, Tryd.ntmps36
  go_wp2_with fail
  go_loopw [3, 8] (fun s3 s8 wr => ∃ (j : Nat) (out : List (ByteArray × Nat)) (B : Option Addr) (d : Nat), j ≤ l.length ∧ s8 = .int .i64 j ∧ s3 = .slice B out.length d ∧ wr.ownsRow w.heap.size 76 2 (.slice B out.length d) out.length (out.flatMap itC) ∧ out.length ≤ j ∧
    Av (out ++ firstL (prvN l j) (l.drop j) = RES) ∧ Bel w wr) (fun _ s8 _ => l.length - (intOf s8).toNat)
  case atStart => exact ⟨0, [], none, 0, Nat.zero_le _, rfl, rfl, ⟨rfl, .inl ⟨rfl, rfl⟩⟩, Nat.le_refl _, ⟨HRES.out⟩, Below.refl _ _⟩
  case round =>
    obtain ⟨j, out, B, d, hj, rfl, rfl, hrow, hoj, HM, hb⟩ := hrel
    have OJ := Av.mk hrow
    have BJ := Av.mk hb
    have HJ := Av.mk (H.out.grow hb)
    clear hrow hb
    by_cases hlt : j < l.length
    · obtain ⟨⟨s, r⟩, hx⟩ : ∃ x, l[j]? = some x := ⟨_, List.getElem?_eq_getElem hlt⟩
      have hprv : prvN l (j + 1) = some s := by show l[j]?.map (·.1) = _; rw [hx]; rfl
      have hm := HM.out
      rw [drop_at hx] at hm
      simp only [firstL] at hm
      obtain ⟨b, off, rfl, hbl, hcc, d0, d1⟩ := item_at HJ.out hx
      simp only at d0 d1
      have hbg := below_alloc (Below.refl _ wr) (.cells #[.string s, .int .i64 (r : Int)] 76)
      have E2 := Av.mk (Blk.new wr 76 #[.string s, .int .i64 (r : Int)])
      have O2 := Av.mk (OJ.out.alloc (.cells #[.string s, .int .i64 (r : Int)] 76))
      have B2 : Av (Bel w (wr.alloc (.cells #[.string s, .int .i64 (r : Int)] 76))) := ⟨below_then BJ.out (Below.size BJ.out) hbg⟩
      have H2 := Av.mk (HJ.out.grow hbg)
      have HSZ : Av (w.heap.size ≤ (wr.alloc (.cells #[.string s, .int .i64 (r : Int)] 76)).heap.size) := ⟨Below.size B2.out⟩
      have hprv2 : ∀ k, j = k + 1 → ∃ y, l[k]? = some y ∧ prvN l j = some y.1 := fun k hk => by
        obtain ⟨y, hy⟩ : ∃ y, l[k]? = some y := ⟨_, List.getElem?_eq_getElem (by omega)⟩
        exact ⟨y, hy, by rw [hk]; show l[k]?.map (·.1) = _; rw [hy]; rfl⟩
      clear HM hx hbg
      go_upto_region 5 with (fail)
      generalize wr.alloc (.cells #[.string s, .int .i64 (r : Int)] 76) = w2 at *
      generalize wr.heap.size = gx at *
      have c0 := E2.out.cell 0; have c1 := E2.out.cell 1
      have lx := E2.out.lt
      simp at c0 c1
      by_cases hnew : prvN l j = some s
      · obtain ⟨k, rfl⟩ : ∃ k, j = k + 1 := by
          cases j with
          | zero => cases hnew
          | succ k => exact ⟨k, rfl⟩
        obtain ⟨⟨s', r'⟩, hy, hp⟩ := hprv2 k rfl
        obtain ⟨b2, o2, e2, _, _, p0, _⟩ := item_at H2.out hy
        injection e2 with e2
        injection e2 with e21 e22 _
        subst e21
        subst e22
        obtain rfl : s' = s := by rw [hp] at hnew; simpa using hnew
        rw [if_pos hnew, ← hprv] at hm
        have HM2 := Av.mk hm
        have t1 : ((k : Int) + 1 == 0) = false := by simp; omega
        have t2 : (s'.toList == s'.toList) = true := by simp
        have hk2 : k * 2 + 2 = (k + 1) * 2 := by omega
        simp only at p0
        clear hm hprv hprv2 hnew hp hy
        go_quiet (fail)
        go_wp2_with fail
        go_roundw
        case rel => exact ⟨k + 1 + 1, out, B, d, by omega, by go_num, rfl, row_keep O2.out ((Keep.refl (fun _ => False) _).drewN _) (fun _ _ => id), by omega, HM2, below_drewN B2.out _⟩
        case measure => simp [intOf]; omega
      · rw [if_neg hnew, ← hprv] at hm
        have HM2 : Av ((out ++ [(s, r)]) ++ firstL (prvN l (j + 1)) (l.drop (j + 1)) = RES) := ⟨by rw [← hm, List.append_assoc]; rfl⟩
        have n1 : out.length + 1 ≤ maxLen := by unfold maxLen; omega
        have n2 : (out.length + 1) * 24 ≤ 140737488355328 := by omega
        clear hm
        have HOJ := Av.mk hoj
        cases j with
        | zero =>
          clear hprv hprv2 hnew
          
          
          go_quiet (fail)
          have O3 := Av.mk (row_keep O2.out ((Keep.refl (fun _ => False) w2).drewN nq) (fun _ _ => id))
          have E3 := Av.mk (E2.out.drewN nq)
          have B3 : Av (Bel w (w2.drewN nq)) := ⟨below_drewN B2.out nq⟩
          clear O2 E2 B2 HSZ c0 c1 lx
          generalize w2.drewN nq = w3 at *
          have c0 := E3.out.cell 0; have c1 := E3.out.cell 1
          have lx := E3.out.lt
          have HSZ := Av.mk (Below.size B3.out)
          simp at c0 c1
          go_wp2_with (first
            | (at_builtin
               refine wpList_app rfl _ _ 65 rfl w.heap.size 76 i76 _ 2 24 Tryd.underlying65 I76.out.1 I76.out.2.1 I76.out.2.2.1 I76.out.2.2.2 (by rfl) (by decide) (.slice B out.length d) out.length _ rfl (O3.out.alloc _) ⟨w3.heap.size, 0, none⟩ 1 1 [.string s, .int .i64 (r : Int)] rfl rfl (new_cells w3 [.string s, .int .i64 (r : Int)] 76) (by simp [Value.oneCell']) n1 n2 (by have := HSZ.out; simp; omega) ?_
               intro A5 c5 w5 ho5 hg5 hd5
               have HO5 := Av.mk ho5
               have hk5 : Keep (fun k => (Value.slice B out.length d).ownBlock = some k) w3 w5 := ((Keep.refl (fun k => (Value.slice B out.length d).ownBlock = some k) w3).alloc _).grown hg5 (fun k hk _ => hk)
               have B5 : Av (Bel w w5) := ⟨(show Below w.heap.size w w3 from B3.out).trans (hk5.below HSZ.out (fun k e => row_base O3.out k e.symm))⟩
               clear ho5 hg5 hd5 hk5))
          go_roundw
          case rel =>
            refine ⟨0 + 1, out ++ [(s, r)], A5, c5, by omega, by go_num, by rw [List.length_append]; rfl, ?_, by have := HOJ.out; rw [List.length_append]; show out.length + 1 ≤ _; omega, HM2, B5.out⟩
            rw [List.length_append, List.flatMap_append]
            exact HO5.out
          case measure => simp [intOf]; omega
        | succ k =>
          obtain ⟨⟨s', r'⟩, hy, hp⟩ := hprv2 k rfl
          obtain ⟨b2, o2, e2, _, _, p0, _⟩ := item_at H2.out hy
          injection e2 with e2
          injection e2 with e21 e22 _
          subst e21
          subst e22
          have hne : s' ≠ s := fun e => hnew (by rw [hp, e])
          have t1 : ((k : Int) + 1 == 0) = false := by simp; omega
          have t2 : (s'.toList == s.toList) = false := eqB_not hne
          simp only at p0
          clear hprv hprv2 hnew hp hy hne
          
          
          go_quiet (fail)
          have O3 := Av.mk (row_keep O2.out ((Keep.refl (fun _ => False) w2).drewN nq) (fun _ _ => id))
          have E3 := Av.mk (E2.out.drewN nq)
          have B3 : Av (Bel w (w2.drewN nq)) := ⟨below_drewN B2.out nq⟩
          clear O2 E2 B2 HSZ c0 c1 lx
          generalize w2.drewN nq = w3 at *
          have c0 := E3.out.cell 0; have c1 := E3.out.cell 1
          have lx := E3.out.lt
          have HSZ := Av.mk (Below.size B3.out)
          simp at c0 c1
          go_wp2_with (first
            | (at_builtin
               refine wpList_app rfl _ _ 65 rfl w.heap.size 76 i76 _ 2 24 Tryd.underlying65 I76.out.1 I76.out.2.1 I76.out.2.2.1 I76.out.2.2.2 (by rfl) (by decide) (.slice B out.length d) out.length _ rfl (O3.out.alloc _) ⟨w3.heap.size, 0, none⟩ 1 1 [.string s, .int .i64 (r : Int)] rfl rfl (new_cells w3 [.string s, .int .i64 (r : Int)] 76) (by simp [Value.oneCell']) n1 n2 (by have := HSZ.out; simp; omega) ?_
               intro A5 c5 w5 ho5 hg5 hd5
               have HO5 := Av.mk ho5
               have hk5 : Keep (fun k => (Value.slice B out.length d).ownBlock = some k) w3 w5 := ((Keep.refl (fun k => (Value.slice B out.length d).ownBlock = some k) w3).alloc _).grown hg5 (fun k hk _ => hk)
               have B5 : Av (Bel w w5) := ⟨(show Below w.heap.size w w3 from B3.out).trans (hk5.below HSZ.out (fun k e => row_base O3.out k e.symm))⟩
               clear ho5 hg5 hd5 hk5))
          go_roundw
          case rel =>
            refine ⟨k + 1 + 1, out ++ [(s, r)], A5, c5, by omega, by go_num, by rw [List.length_append]; rfl, ?_, by have := HOJ.out; rw [List.length_append]; show out.length + 1 ≤ _; omega, HM2, B5.out⟩
            rw [List.length_append, List.flatMap_append]
            exact HO5.out
          case measure => simp [intOf]; omega
    · obtain rfl : j = l.length := by omega
      have HE : Av (out = RES) := ⟨by
        have := HM.out
        rw [List.drop_length] at this
        simpa [firstL] using this⟩
      go_wp2_with fail
      go_ret
      rw [← HE.out]
      exact ⟨B, d, rfl, Sl.of_row OJ.out (fun k e => row_base OJ.out k e.symm), BJ.out⟩
theorem info78 : ∃ i, Tryd.prog.info? 78 = some i ∧ i.zero = some (.agg #[.string ⟨#[]⟩, .int .i64 0]) ∧ i.size = 2 ∧ i.bytes = 24 := by
  have h : (Tryd.prog.info? 78).map (fun i => (i.zero, i.size, i.bytes)) = some (some (.agg #[.string ⟨#[]⟩, .int .i64 0]), 2, 24) := by kernel_rfl
  obtain ⟨i, hi, e⟩ := Option.map_eq_some_iff.1 h
  simp only [Prod.mk.injEq] at e
  exact ⟨i, hi, e.1, e.2.1, e.2.2⟩
/-- An entry: a name, and a kind. -/
def enC (x : ByteArray × Int) : List Value := [.string x.1, .int .i64 x.2]
theorem enC_len (x : ByteArray × Int) : (enC x).length = 2 := rfl
theorem entry_at {Q : Nat → Prop} {w : World} {A : Option Addr} {c k : Nat} {l : List (ByteArray × Int)} {x : ByteArray × Int} (h : Sl Q w 2 (.slice A l.length c) l.length (l.flatMap enC)) (hx : l[k]? = some x) :
    ∃ b off, A = some ⟨b, off, none⟩ ∧ b < w.heap.size ∧ l.length ≤ c ∧ w.cell? ⟨b, off + k * 2, none⟩ = some (.string x.1) ∧ w.cell? ⟨b, off + k * 2 + 1, none⟩ = some (.int .i64 x.2) := by
  obtain ⟨b, off, rfl, _, hb, hc, h0, hj⟩ := h.elem (f := enC) enC_len (by omega) hx
  have d1 := hj 1 (by omega)
  have d0 := hj 0 (by omega)
  exact ⟨b, off, rfl, hb, hc, by simpa [enC] using d0, by simpa [enC] using d1⟩
def NmsP (ns : List ByteArray) (w : World) (e : Ending) (w' : World) : Prop := ∃ A c, e = .returned (.slice A ns.length c) ∧ Sl (fun k => w.heap.size ≤ k) w' 1 (.slice A ns.length c) ns.length (ns.map Value.string) ∧ Bel w w'
set_option maxRecDepth 100000 in
set_option maxHeartbeats 1000000 in
theorem mnames_calls {Q : Nat → Prop} {w : World} {A : Option Addr} {c : Nat} {l : List (ByteArray × Int)} (h : Sl Q w 2 (.slice A l.length c) l.length (l.flatMap enC)) (hl : l.length ≤ 100000) :
    Calls Tryd.prog 35 #[.slice A l.length c] w (NmsP (l.map (·.1)) w) := by
  have H := Av.mk h
  obtain ⟨i9, hi9⟩ := info9
  have I9 := Av.mk hi9
  obtain ⟨M, hM⟩ : ∃ M, l.length = M := ⟨_, rfl⟩
  have HM := Av.mk hM
  clear h hi9
  rw [hM] at hl
  show Calls Tryd.prog 35 #[.slice A l.length c] w _
  rw [hM]
  clear hM
  go_enter Tryd.func35, Tryd.ntmps35
  go_wp2_with (first | (at_make; refine wpList_make_own _ rfl _ _ 23 rfl w.heap.size 9 i9 _ 1 Tryd.underlying23 I9.out.1 I9.out.2.1 I9.out.2.2.1 .i64 .i64 _ M rfl rfl rfl (by rw [I9.out.2.2.2]; omega) (by unfold maxLen; omega) (Nat.le_refl _) ?_; intro w3 hown3 hgrow3; have HO3 := Av.mk hown3; have HG3 := Av.mk hgrow3; clear hown3 hgrow3))
  have hb3 : Bel w w3 := (Below.refl _ w).grown HG3.out (Nat.le_refl _) (fun k hk => by cases hk)
  have B3 := Av.mk hb3
  clear hb3 HG3
  go_loopw [3, 11] (fun s3 s11 wr => ∃ (j : Nat) (B : Option Addr) (d : Nat), j ≤ M ∧ s11 = .int .i64 j ∧ s3 = .slice B j d ∧ wr.ownsRow w.heap.size 9 1 (.slice B j d) j ((l.take j).map fun x => Value.string x.1) ∧ Bel w wr) (fun _ s11 _ => M - (intOf s11).toNat)
  case atStart => exact ⟨0, _, M, Nat.zero_le _, rfl, rfl, HO3.out, B3.out⟩
  case round =>
    obtain ⟨j, B, d, hj, rfl, rfl, hrow, hb⟩ := hrel
    have OJ := Av.mk hrow
    have BJ := Av.mk hb
    have HJ := Av.mk (H.out.grow hb)
    clear hrow hb
    by_cases hlt : j < M
    · obtain ⟨⟨s, r⟩, hx⟩ : ∃ x, l[j]? = some x := ⟨_, List.getElem?_eq_getElem (by rw [HM.out]; exact hlt)⟩
      have HTK : Av ((l.take (j + 1)).map (fun x => Value.string x.1) = (l.take j).map (fun x => Value.string x.1) ++ [.string s]) := ⟨by rw [List.take_add_one, hx]; simp⟩
      obtain ⟨b, off, hA, hbl, hcc, d0, d1⟩ := entry_at HJ.out hx
      subst hA
      simp only at d0 d1
      have hbg := below_alloc (Below.refl _ wr) (.cells #[.string s, .int .i64 r] 78)
      have E2 := Av.mk (Blk.new wr 78 #[.string s, .int .i64 r])
      have O2 := Av.mk (OJ.out.alloc (.cells #[.string s, .int .i64 r] 78))
      have B2 : Av (Bel w (wr.alloc (.cells #[.string s, .int .i64 r] 78))) := ⟨below_then BJ.out (Below.size BJ.out) hbg⟩
      have n1 : j + 1 ≤ maxLen := by unfold maxLen; omega
      have n2 : (j + 1) * 16 ≤ 140737488355328 := by omega
      rw [HM.out] at hcc
      clear hx hbg HJ OJ
      go_upto_region 5 with (fail)
      generalize wr.alloc (.cells #[.string s, .int .i64 r] 78) = w2 at *
      generalize wr.heap.size = gx at *
      have c0 := E2.out.cell 0; have c1 := E2.out.cell 1
      have lx := E2.out.lt
      have HSZ := Av.mk (Below.size B2.out)
      simp at c0 c1
      go_wp2_with (first
        | (at_builtin
           refine wpList_app rfl _ _ 23 rfl w.heap.size 9 i9 _ 1 16 Tryd.underlying23 I9.out.1 I9.out.2.1 I9.out.2.2.1 I9.out.2.2.2 (by rfl) (by decide) (.slice B j d) j _ rfl (O2.out.alloc _) ⟨w2.heap.size, 0, none⟩ 1 1 [.string s] rfl rfl (new_cells w2 [.string s] 9) (by simp [Value.oneCell']) n1 n2 (by have := HSZ.out; simp; omega) ?_
           intro A5 c5 w5 ho5 hg5 hd5
           have HO5 := Av.mk ho5
           have hk5 : Keep (fun k => (Value.slice B j d).ownBlock = some k) w2 w5 := ((Keep.refl (fun k => (Value.slice B j d).ownBlock = some k) w2).alloc _).grown hg5 (fun k hk _ => hk)
           have B5 : Av (Bel w w5) := ⟨(show Below w.heap.size w w2 from B2.out).trans (hk5.below HSZ.out (fun k e => row_base O2.out k e.symm))⟩
           clear ho5 hg5 hd5 hk5))
      go_roundw
      case rel => exact ⟨j + 1, A5, c5, by omega, by go_num, rfl, by rw [HTK.out]; exact HO5.out, B5.out⟩
      case measure => simp [intOf]; omega
    · obtain rfl : j = M := by omega
      go_wp2_with fail
      go_ret
      have h1 := OJ.out
      rw [← HM.out, List.take_length] at h1
      have hlm : (l.map (·.1)).length = j := by rw [List.length_map, HM.out]
      refine ⟨B, d, by rw [hlm]; rfl, ?_, BJ.out⟩
      rw [List.length_map, List.map_map]
      exact Sl.of_row h1 (fun k e => row_base h1 k e.symm)
/-- Rising names rise. -/
theorem rises_calls {Q : Nat → Prop} {w : World} {A : Option Addr} {c : Nat} {ns : List ByteArray} (h : Sl Q w 1 (.slice A ns.length c) ns.length (ns.map Value.string)) (hl : ns.length ≤ 100000) (hs : ∀ s ∈ ns, s.size ≤ 140737488355328) (hr : Rising ns) :
    Calls Tryd.prog 34 #[.slice A ns.length c] w (QuB (.bool true) w) := by
  have H := Av.mk h
  have HS := Av.mk hs
  have HR := Av.mk hr
  clear h hs hr
  go_enter Tryd.func34, Tryd.ntmps34
  go_wp2_with fail
  go_loopw [3] (fun s3 wr => ∃ j : Nat, 1 ≤ j ∧ j ≤ ns.length + 1 ∧ s3 = .int .i64 j ∧ (∃ m, wr = w.drewN m)) (fun s3 _ => ns.length + 1 - (intOf s3).toNat)
  case atStart => exact ⟨1, Nat.le_refl _, by omega, rfl, ⟨0, drewN_zero _⟩⟩
  case round =>
    obtain ⟨j, hj1, hj, rfl, ⟨m, hm⟩⟩ := hrel
    have HM := Av.mk hm
    have HS1 : Av (Sl Q wr 1 (.slice A ns.length c) ns.length (ns.map Value.string)) := ⟨by rw [hm]; exact H.out.grow (below_drewN (Below.refl _ w) m)⟩
    clear hm
    obtain ⟨k, rfl⟩ : ∃ k, j = k + 1 := ⟨j - 1, by omega⟩
    by_cases hlt : k + 1 < ns.length
    · obtain ⟨s, hsx⟩ : ∃ s, ns[k + 1]? = some s := ⟨_, List.getElem?_eq_getElem hlt⟩
      obtain ⟨s', hsy⟩ : ∃ s, ns[k]? = some s := ⟨_, List.getElem?_eq_getElem (by omega)⟩
      obtain ⟨b1, o1, rfl, _, hbl1, hc1, e1, hall⟩ := HS1.out.str hsx
      have e2 := hall k s' hsy
      have hlt2 := HR.out k (k + 1) s' s (by omega) hsy hsx
      have HC := Av.mk (fun W => nless_calls s' s W (HS.out s' (List.mem_of_getElem? hsy)) (HS.out s (List.mem_of_getElem? hsx)))
      rw [hlt2] at HC
      clear hsx hsy hall hlt2
      go_upto_region 4 with (fail)
      go_quiet ((go_at_call 71; refine Calls.quiet_of (HC.out _)))
      go_wp2_with fail
      go_roundw
      case rel => exact ⟨k + 1 + 1, by omega, by omega, by go_num, by rw [HM.out]; exact ⟨_, by first | rfl | exact World.drewN_drewN _ _ _⟩⟩
      case measure => simp [intOf]; omega
    · go_wp2_with fail
      go_ret
      exact ⟨rfl, m, HM.out⟩
end Go.Proofs.YtkmojgdjapfbbaaDoor
