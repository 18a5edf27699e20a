/- socageref01.Split. -/
import Derived.Test.YtkmojgdjapfbbaaDoorNr
import Derived.Test.YtkmojgdjapfbbaaDoorSc
namespace Go.Proofs.YtkmojgdjapfbbaaDoor
open Go.RowKit Go.Maps
set_option linter.unusedSimpArgs false
set_option linter.unusedVariables false

def RSplitP (b : Bool) (w : World) (e : Ending) (w' : World) : Prop := ∃ A n c, e = .returned (.tuple #[.slice A n c, .bool b]) ∧ Below w.heap.size w w'
theorem cut47_none : ∀ p : List UInt8, 47 ∉ p → cut47 p = [p]
  | [], _ => rfl
  | b :: p, h => by
    have h1 : b ≠ 47 := fun e => h (by simp [e])
    have h2 : 47 ∉ p := fun e => h (by simp [e])
    simp [cut47, h1, cut47_none p h2]
theorem cut47_cut : ∀ p r : List UInt8, 47 ∉ p → cut47 (p ++ 47 :: r) = p :: cut47 r
  | [], r, _ => by simp [cut47]
  | b :: p, r, h => by
    have h1 : b ≠ 47 := fun e => h (by simp [e])
    have h2 : 47 ∉ p := fun e => h (by simp [e])
    simp [cut47, h1, cut47_cut p r h2]
/-- Between two places lies no slash. -/
def NoSl (s : ByteArray) (a i : Nat) : Prop := ∀ j, a ≤ j → j < i → s.data.toList[j]? ≠ some 47
theorem noSl_not {s : ByteArray} {a i : Nat} (h : NoSl s a i) : 47 ∉ (s.data.toList.drop a).take (i - a) := by
  intro hm
  obtain ⟨j, hj⟩ := List.getElem?_of_mem hm
  rw [List.getElem?_take] at hj
  split at hj
  · rw [List.getElem?_drop] at hj
    exact h (a + j) (by omega) (by omega) hj
  · cases hj
theorem cut_here {s : ByteArray} {a i : Nat} (h : NoSl s a i) (ha : a ≤ i) (hi : s.data.toList[i]? = some 47) : cut47 (s.data.toList.drop a) = (s.data.toList.drop a).take (i - a) :: cut47 (s.data.toList.drop (i + 1)) := by
  have h1 : s.data.toList.drop a = (s.data.toList.drop a).take (i - a) ++ 47 :: s.data.toList.drop (i + 1) := by
    rw [← drop_at hi, show s.data.toList.drop i = (s.data.toList.drop a).drop (i - a) by rw [List.drop_drop]; congr 1; omega, List.take_append_drop]
  conv => lhs; rw [h1]
  exact cut47_cut _ _ (noSl_not h)
theorem cut_end {s : ByteArray} {a : Nat} (h : NoSl s a s.size) : cut47 (s.data.toList.drop a) = [(s.data.toList.drop a).take (s.size - a)] := by
  have h1 : (s.data.toList.drop a).take (s.size - a) = s.data.toList.drop a := List.take_of_length_le (by rw [List.length_drop, ← Lib.size_eq]; omega)
  have := cut47_none _ (noSl_not h)
  rw [h1] at this ⊢
  exact this
/-- How far it has come. -/
def SpI (s : ByteArray) (a i : Nat) : Prop := (a ≤ i ∧ i ≤ s.size ∧ NoSl s a i ∧ (cut47 s.data.toList).all partOk = (cut47 (s.data.toList.drop a)).all partOk) ∨ (i = s.size + 1 ∧ (cut47 s.data.toList).all partOk = true)
theorem SpI.on {s : ByteArray} {a i : Nat} {x : UInt8} (h : SpI s a i) (hi : i < s.size) (hx : s.data.toList[i]? = some x) (hn : x ≠ 47) : SpI s a (i + 1) := by
  rcases h with ⟨h1, h2, h3, h4⟩ | ⟨h1, _⟩
  · refine .inl ⟨by omega, by omega, fun j hj1 hj2 => ?_, h4⟩
    rcases Nat.lt_or_ge j i with hj | hj
    · exact h3 j hj1 hj
    · obtain rfl : j = i := by omega
      rw [hx]
      simp [hn]
  · omega
theorem SpI.part {s : ByteArray} {a i : Nat} (h : SpI s a i) (hi : i ≤ s.size) (hx : i < s.size → s.data.toList[i]? = some 47) (hp : partOk (s.extract a i).data.toList = true) : SpI s (i + 1) (i + 1) := by
  rcases h with ⟨h1, h2, h3, h4⟩ | ⟨h1, _⟩
  · rw [Lib.extract_data] at hp
    rcases Nat.lt_or_ge i s.size with hlt | hge
    · rw [cut_here h3 h1 (hx hlt), List.all_cons, hp, Bool.true_and] at h4
      exact .inl ⟨Nat.le_refl _, by omega, fun j hj1 hj2 => by omega, h4⟩
    · obtain rfl : i = s.size := by omega
      rw [cut_end h3, List.all_cons, hp] at h4
      exact .inr ⟨rfl, by simpa using h4⟩
  · omega
theorem SpI.bad {s : ByteArray} {a i : Nat} (h : SpI s a i) (hi : i ≤ s.size) (hx : i < s.size → s.data.toList[i]? = some 47) (hp : partOk (s.extract a i).data.toList = false) : (cut47 s.data.toList).all partOk = false := by
  rcases h with ⟨h1, h2, h3, h4⟩ | ⟨h1, _⟩
  · rw [Lib.extract_data] at hp
    rcases Nat.lt_or_ge i s.size with hlt | hge
    · rw [cut_here h3 h1 (hx hlt), List.all_cons, hp, Bool.false_and] at h4
      exact h4
    · obtain rfl : i = s.size := by omega
      rw [cut_end h3, List.all_cons, hp, Bool.false_and] at h4
      exact h4
  · omega
theorem SpI.le {s : ByteArray} {a i : Nat} (h : SpI s a i) (hi : i ≤ s.size) : a ≤ i := by
  rcases h with ⟨h1, _⟩ | ⟨h1, _⟩ <;> omega
set_option maxRecDepth 100000 in
set_option maxHeartbeats 4000000 in
theorem nsplit_calls (s : ByteArray) (w : World) (hl : s.size ≤ 140737488355328) : Calls Tryd.prog 93 #[.string s] w (RSplitP (splitOk s) w) := by
  obtain ⟨i0, hi0⟩ := info9
  have I9 := Av.mk hi0
  clear hi0
  by_cases h0 : s.size = 0
  · have HR : Av (splitOk s = false) := ⟨by unfold splitOk; simp [h0]⟩
    go_enter Tryd.func93, Tryd.ntmps93
    go_wp2_with fail
    go_ret2
    exact ⟨none, 0, 0, by rw [HR.out]; rfl, Below.refl _ _⟩
  by_cases h1 : s.size ≤ 1024
  case neg =>
    have HR : Av (splitOk s = false) := ⟨by unfold splitOk; simp [h1]⟩
    go_enter Tryd.func93, Tryd.ntmps93
    go_wp2_with fail
    go_ret2
    exact ⟨none, 0, 0, by rw [HR.out]; rfl, Below.refl _ _⟩
  have HR : Av (splitOk s = (cut47 s.data.toList).all partOk) := ⟨by unfold splitOk; simp [h0, h1]⟩
  generalize splitOk s = R at *
  go_enter Tryd.func93, Tryd.ntmps93
  go_wp2_with fail
  have HO : Av ((w.alloc (.cells #[] 9)).ownsRow w.heap.size 9 1 (.slice (some ⟨w.heap.size, 0, none⟩) 0 0) 0 []) := ⟨⟨rfl, .inr ⟨w.heap.size, 0, #[], rfl, Nat.le_refl _, heap_alloc_new w _, Nat.le_refl _, by unfold maxLen; omega, rfl, rfl⟩⟩⟩
  have HB1 := Av.mk (below_alloc (Below.refl _ w) (.cells #[] 9))
  generalize w.alloc (.cells #[] 9) = w1 at *
  go_loopw [4, 5, 6] (fun s4 s5 s6 wr => ∃ (a i : Nat) (A : Option Addr) (n c : Nat) (xs : List Value), i ≤ s.size + 1 ∧ n ≤ i ∧ s5 = .int .i64 a ∧ s6 = .int .i64 i ∧ s4 = .slice A n c ∧ wr.ownsRow w.heap.size 9 1 (.slice A n c) n xs ∧ Below w.heap.size w wr ∧ Av (SpI s a i)) (fun _ _ s6 _ => s.size + 1 - (intOf s6).toNat)
  case atStart => exact ⟨0, 0, _, 0, 0, [], by omega, by omega, rfl, rfl, rfl, HO.out, HB1.out, ⟨.inl ⟨by omega, by omega, fun j h1 h2 => by omega, by simp⟩⟩⟩
  case round =>
    obtain ⟨a, i, A, n, c, xs, hi, hn, rfl, rfl, rfl, hrow, hb, HI⟩ := hrel
    have HRW := Av.mk hrow
    have HB := Av.mk hb
    clear hrow hb
    by_cases hle : i ≤ s.size
    case neg =>
      obtain rfl : i = s.size + 1 := by omega
      have HRT : Av (R = true) := ⟨by
        rcases HI.out with ⟨_, h2, _⟩ | ⟨_, h2⟩
        · omega
        · rw [HR.out, h2]⟩
      go_wp2_with fail
      go_ret2
      exact ⟨A, n, c, by rw [HRT.out]; rfl, HB.out⟩
    have hai := HI.out.le hle
    obtain ⟨u, hu⟩ : ∃ u, s.extract a i = u := ⟨_, rfl⟩
    have husz : u.size ≤ 1024 := by rw [← hu, Lib.size_eq, Lib.extract_data, List.length_take, List.length_drop, ← Lib.size_eq]; omega
    have hpo := Av.mk (partOk_of u)
    by_cases hlt : i < s.size
    case pos =>
      obtain ⟨x, hx⟩ : ∃ x : UInt8, s[i] = x := ⟨_, rfl⟩
      have hbx := byte_at hlt hx
      by_cases hne : x = 47
      case neg =>
        have HI2 := Av.mk (HI.out.on hlt hbx hne)
        have t1 : ((x.toNat : Int) != 47) = true := by
          have : x.toNat ≠ 47 := fun e => hne (UInt8.toNat.inj e)
          simp; omega
        clear hne hbx
        go_wp2_with fail
        exact ⟨⟨a, i + 1, A, n, c, xs, by omega, by omega, rfl, by go_num, rfl, HRW.out, HB.out, HI2⟩, by simp [intOf]; omega⟩
      case pos =>
        have t1 : ((x.toNat : Int) != 47) = false := by rw [hne]; rfl
        have HSL : Av (i < s.size → s.data.toList[i]? = some 47) := ⟨fun _ => by rw [hbx, hne]⟩
        clear hne hbx
        have HI2 := Av.mk (HI.out.part hle HSL.out)
        have HI3 := Av.mk (HI.out.bad hle HSL.out)
        rw [hu] at HI2 HI3
        by_cases u0 : u.toList = []
        · have HA3 := Av.mk (HI2.out (by rw [hpo.out]; simp [u0]))
          go_wp2_with fail
          exact ⟨⟨i + 1, i + 1, A, n, c, xs, by omega, by omega, by go_num, by go_num, rfl, HRW.out, HB.out, ⟨HA3.out⟩⟩, by simp [intOf]; omega⟩
        by_cases u1 : u.toList = [46]
        · have HA3 := Av.mk (HI2.out (by rw [hpo.out]; simp [u1]))
          go_wp2_with fail
          exact ⟨⟨i + 1, i + 1, A, n, c, xs, by omega, by omega, by go_num, by go_num, rfl, HRW.out, HB.out, ⟨HA3.out⟩⟩, by simp [intOf]; omega⟩
        by_cases u2 : u.toList = [46, 46]
        · have HA3 := Av.mk (HI2.out (by rw [hpo.out]; simp [u2]))
          go_wp2_with (first | (at_builtin; refine wpList_app rfl _ _ 23 rfl w.heap.size 9 i0 _ 1 16 Tryd.underlying23 I9.out.1 I9.out.2.1 I9.out.2.2.1 I9.out.2.2.2 (by rfl) (by decide) (.slice A n c) n xs rfl (HRW.out.alloc _) ⟨wr.heap.size, 0, none⟩ 1 1 [.string u] rfl rfl (new_cells wr [.string u] 9) (by simp [Value.oneCell']) (by unfold maxLen; omega) (by omega) (by have := HB.out.size; simp; omega) ?_; intro A4 c4 w4 ho4 hg4 _; have HO4 := Av.mk ho4; have HG4 := Av.mk hg4; clear ho4 hg4))
          have hb4 : Below w.heap.size w w4 := (HB.out.alloc HB.out.size _).grown HG4.out (by have := HB.out.size; simp; omega) (fun k hk => row_base HRW.out k hk.symm)
          exact ⟨⟨i + 1, i + 1, A4, n + 1, c4, _, by omega, by omega, by go_num, by go_num, rfl, HO4.out, hb4, ⟨HA3.out⟩⟩, by simp [intOf]; omega⟩
        have HN := Av.mk (nright_calls u wr (by omega))
        have v0 : u.toList.isEmpty = false := by simpa using u0
        have v1 : (u.toList == [46]) = false := by simpa using u1
        have v2 : (u.toList == [46, 46]) = false := by simpa using u2
        cases hno : nameOk u
        · have HRF : Av (R = false) := ⟨by rw [HR.out, HI3.out (by rw [hpo.out]; simp [u0, u1, u2, hno])]⟩
          rw [hno] at HN
          go_wp2_with fail
          refine HN.out.mono ?_
          rintro e w3 ⟨rfl, m3, rfl⟩
          have HB3 := Av.mk (below_drewN HB.out m3)
          go_wp2_with fail
          go_ret2
          exact ⟨none, 0, 0, by rw [HRF.out]; rfl, HB3.out⟩
        · have HA3 := Av.mk (HI2.out (by rw [hpo.out]; simp [hno]))
          rw [hno] at HN
          go_wp2_with fail
          refine HN.out.mono ?_
          rintro e w3 ⟨rfl, m3, rfl⟩
          have HB3 := Av.mk (below_drewN HB.out m3)
          have HRW3 : Av ((wr.drewN m3).ownsRow w.heap.size 9 1 (.slice A n c) n xs) := ⟨HRW.out⟩
          generalize wr.drewN m3 = w3 at *
          go_wp2_with (first | (at_builtin; refine wpList_app rfl _ _ 23 rfl w.heap.size 9 i0 _ 1 16 Tryd.underlying23 I9.out.1 I9.out.2.1 I9.out.2.2.1 I9.out.2.2.2 (by rfl) (by decide) (.slice A n c) n xs rfl (HRW3.out.alloc _) ⟨w3.heap.size, 0, none⟩ 1 1 [.string u] rfl rfl (new_cells w3 [.string u] 9) (by simp [Value.oneCell']) (by unfold maxLen; omega) (by omega) (by have := HB3.out.size; simp; omega) ?_; intro A4 c4 w4 ho4 hg4 _; have HO4 := Av.mk ho4; have HG4 := Av.mk hg4; clear ho4 hg4))
          have hb4 : Below w.heap.size w w4 := (HB3.out.alloc HB3.out.size _).grown HG4.out (by have := HB3.out.size; simp; omega) (fun k hk => row_base HRW3.out k hk.symm)
          exact ⟨⟨i + 1, i + 1, A4, n + 1, c4, _, by omega, by omega, by go_num, by go_num, rfl, HO4.out, hb4, ⟨HA3.out⟩⟩, by simp [intOf]; omega⟩
    case neg =>
      have HSL : Av (i < s.size → s.data.toList[i]? = some 47) := ⟨fun h => absurd h hlt⟩
      have HI2 := Av.mk (HI.out.part hle HSL.out)
      have HI3 := Av.mk (HI.out.bad hle HSL.out)
      rw [hu] at HI2 HI3
      by_cases u0 : u.toList = []
      · have HA3 := Av.mk (HI2.out (by rw [hpo.out]; simp [u0]))
        go_wp2_with fail
        exact ⟨⟨i + 1, i + 1, A, n, c, xs, by omega, by omega, by go_num, by go_num, rfl, HRW.out, HB.out, ⟨HA3.out⟩⟩, by simp [intOf]; omega⟩
      by_cases u1 : u.toList = [46]
      · have HA3 := Av.mk (HI2.out (by rw [hpo.out]; simp [u1]))
        go_wp2_with fail
        exact ⟨⟨i + 1, i + 1, A, n, c, xs, by omega, by omega, by go_num, by go_num, rfl, HRW.out, HB.out, ⟨HA3.out⟩⟩, by simp [intOf]; omega⟩
      by_cases u2 : u.toList = [46, 46]
      · have HA3 := Av.mk (HI2.out (by rw [hpo.out]; simp [u2]))
        go_wp2_with (first | (at_builtin; refine wpList_app rfl _ _ 23 rfl w.heap.size 9 i0 _ 1 16 Tryd.underlying23 I9.out.1 I9.out.2.1 I9.out.2.2.1 I9.out.2.2.2 (by rfl) (by decide) (.slice A n c) n xs rfl (HRW.out.alloc _) ⟨wr.heap.size, 0, none⟩ 1 1 [.string u] rfl rfl (new_cells wr [.string u] 9) (by simp [Value.oneCell']) (by unfold maxLen; omega) (by omega) (by have := HB.out.size; simp; omega) ?_; intro A4 c4 w4 ho4 hg4 _; have HO4 := Av.mk ho4; have HG4 := Av.mk hg4; clear ho4 hg4))
        have hb4 : Below w.heap.size w w4 := (HB.out.alloc HB.out.size _).grown HG4.out (by have := HB.out.size; simp; omega) (fun k hk => row_base HRW.out k hk.symm)
        exact ⟨⟨i + 1, i + 1, A4, n + 1, c4, _, by omega, by omega, by go_num, by go_num, rfl, HO4.out, hb4, ⟨HA3.out⟩⟩, by simp [intOf]; omega⟩
      have HN := Av.mk (nright_calls u wr (by omega))
      have v0 : u.toList.isEmpty = false := by simpa using u0
      have v1 : (u.toList == [46]) = false := by simpa using u1
      have v2 : (u.toList == [46, 46]) = false := by simpa using u2
      cases hno : nameOk u
      · have HRF : Av (R = false) := ⟨by rw [HR.out, HI3.out (by rw [hpo.out]; simp [u0, u1, u2, hno])]⟩
        rw [hno] at HN
        go_wp2_with fail
        refine HN.out.mono ?_
        rintro e w3 ⟨rfl, m3, rfl⟩
        have HB3 := Av.mk (below_drewN HB.out m3)
        go_wp2_with fail
        go_ret2
        exact ⟨none, 0, 0, by rw [HRF.out]; rfl, HB3.out⟩
      · have HA3 := Av.mk (HI2.out (by rw [hpo.out]; simp [hno]))
        rw [hno] at HN
        go_wp2_with fail
        refine HN.out.mono ?_
        rintro e w3 ⟨rfl, m3, rfl⟩
        have HB3 := Av.mk (below_drewN HB.out m3)
        have HRW3 : Av ((wr.drewN m3).ownsRow w.heap.size 9 1 (.slice A n c) n xs) := ⟨HRW.out⟩
        generalize wr.drewN m3 = w3 at *
        go_wp2_with (first | (at_builtin; refine wpList_app rfl _ _ 23 rfl w.heap.size 9 i0 _ 1 16 Tryd.underlying23 I9.out.1 I9.out.2.1 I9.out.2.2.1 I9.out.2.2.2 (by rfl) (by decide) (.slice A n c) n xs rfl (HRW3.out.alloc _) ⟨w3.heap.size, 0, none⟩ 1 1 [.string u] rfl rfl (new_cells w3 [.string u] 9) (by simp [Value.oneCell']) (by unfold maxLen; omega) (by omega) (by have := HB3.out.size; simp; omega) ?_; intro A4 c4 w4 ho4 hg4 _; have HO4 := Av.mk ho4; have HG4 := Av.mk hg4; clear ho4 hg4))
        have hb4 : Below w.heap.size w w4 := (HB3.out.alloc HB3.out.size _).grown HG4.out (by have := HB3.out.size; simp; omega) (fun k hk => row_base HRW3.out k hk.symm)
        exact ⟨⟨i + 1, i + 1, A4, n + 1, c4, _, by omega, by omega, by go_num, by go_num, rfl, HO4.out, hb4, ⟨HA3.out⟩⟩, by simp [intOf]; omega⟩
end Go.Proofs.YtkmojgdjapfbbaaDoor
