/- name.Split. -/
import Derived.Test.YtkmojgdjapfbbaaDoorSp
import Derived.Test.YtkmojgdjapfbbaaDoorFw
namespace Go.Proofs.YtkmojgdjapfbbaaDoor
open Go.RowKit Go.Maps
set_option linter.unusedSimpArgs false
set_option linter.unusedVariables false

theorem partOk_of (u : ByteArray) : partOk u.data.toList = (decide (u.toList = []) || decide (u.toList = [46]) || decide (u.toList = [46, 46]) || nameOk u) := by
  unfold partOk
  rw [toList_eq]
  have : (⟨u.data.toList.toArray⟩ : ByteArray) = u := by cases u; simp
  rw [this]
  cases h : u.data.toList <;> simp
theorem cut47_len : ∀ (l : List UInt8) (p : List UInt8), p ∈ cut47 l → p.length ≤ l.length
  | [], p, h => by simp [cut47] at h; subst h; simp
  | b :: l, p, h => by
    have ih := cut47_len l
    unfold cut47 at h
    split at h
    · rcases List.mem_cons.1 h with rfl | h
      · simp
      · have := ih p h; simp; omega
    · split at h
      · rename_i q qs hq
        rcases List.mem_cons.1 h with rfl | h
        · have := ih q (by rw [hq]; simp); simp; omega
        · have := ih p (by rw [hq]; simp [h]); simp; omega
      · have e : p = [b] := by simpa using h
        subst e; simp
set_option maxRecDepth 100000 in
set_option maxHeartbeats 4000000 in
theorem splitC_all (s : ByteArray) (hs : s.size < 4294967281) : SplitC s := by
  intro w
  obtain ⟨i0, hi0⟩ := info9
  have I9 := Av.mk hi0
  clear hi0
  by_cases h0 : s.toList = []
  · have HR : Av (splitOk s = false) := ⟨by unfold splitOk; have : s.size = 0 := (empty_iff s).1 (by rw [h0]; rfl); simp [this]⟩
    go_enter Tryd.func85, Tryd.ntmps85
    go_wp2_with fail
    go_ret3
    exact ⟨none, 0, 0, false, 1, rfl, HR.out, Below.refl _ _⟩
  by_cases h1 : s.size ≤ 1024
  case neg =>
    have HR : Av (splitOk s = false) := ⟨by unfold splitOk; simp [h1]⟩
    go_enter Tryd.func85, Tryd.ntmps85
    go_wp2_with fail
    go_ret3
    exact ⟨none, 0, 0, false, 1, rfl, HR.out, Below.refl _ _⟩
  have HR : Av (splitOk s = (cut47 s.data.toList).all partOk) := ⟨by
    have : s.size ≠ 0 := fun e => h0 (by have := (empty_iff s).2 e; simpa using this)
    unfold splitOk; simp [h1, this]⟩
  have HC := Av.mk (Split_one s w hs)
  obtain ⟨PL, hPL⟩ : ∃ PL, Lib.splitB sl 0 (Lib.countB s sl) s = PL := ⟨_, rfl⟩
  have hlen := Lib.splitB_all sl (by decide) 0 _ s rfl
  have hcl := Lib.countB_le sl (by decide) s.size s (Nat.le_refl _)
  have HP := Av.mk (split_cut s)
  rw [hPL] at HC hlen HP
  rw [← hlen] at HC
  have hPl : PL.length ≤ 1025 := by omega
  have HSZ : Av (∀ (j : Nat) (u : ByteArray), PL[j]? = some u → u.size ≤ 1024) := ⟨fun j u hu => by
    have hm : u.data.toList ∈ cut47 s.data.toList := by rw [← HP.out]; exact List.mem_map.2 ⟨u, List.mem_of_getElem? hu, rfl⟩
    have := cut47_len _ _ hm
    rw [← Lib.size_eq, ← Lib.size_eq] at this
    omega⟩
  rw [← HP.out] at HR
  clear hPL hlen hcl HP
  have e0 : s.toList.isEmpty = false := by simpa using h0
  have e1 : decide ((1024 : Int) < (s.size : Int)) = false := by simp; omega
  go_enter Tryd.func85, Tryd.ntmps85
  go_wp2_with fail
  refine HC.out.mono ?_
  rintro e w1 ⟨rfl, rfl⟩
  have X := Av.mk (Blk.new w 9 (PL.map Value.string).toArray)
  have HB1 := Av.mk (below_alloc (Below.refl _ w) (.cells (PL.map Value.string).toArray 9))
  have hz1 : (w.alloc (.cells (PL.map Value.string).toArray 9)).heap.size = w.heap.size + 1 := by simp
  have HZ := Av.mk hz1
  clear hz1
  generalize w.alloc (.cells (PL.map Value.string).toArray 9) = w1 at *
  go_wp2_with fail
  go_loopw [2, 17] (fun s2 s17 wr => ∃ (k : Nat) (A : Option Addr) (n c : Nat) (xs : List Value), k ≤ PL.length ∧ n ≤ k ∧ s17 = .int .i64 k ∧ s2 = .slice A n c ∧ wr.ownsRow (w.heap.size + 1) 9 1 (.slice A n c) n xs ∧ Below (w.heap.size + 1) w1 wr ∧ Av (∀ (j : Nat) u, j < k → PL[j]? = some u → partOk u.data.toList = true)) (fun _ s17 _ => PL.length - (intOf s17).toNat)
  case atStart => exact ⟨0, none, 0, 0, [], Nat.zero_le _, Nat.zero_le _, rfl, rfl, ⟨rfl, .inl ⟨rfl, rfl⟩⟩, Below.refl _ _, ⟨fun j u h => by omega⟩⟩
  case round =>
    obtain ⟨k, A, n, c, xs, hk, hn, rfl, rfl, hrow, hb, HA⟩ := hrel
    have HRW := Av.mk hrow
    have HB := Av.mk hb
    have hz0 := HB1.out.size
    have HBw : Av (Bel w wr) := ⟨HB1.out.trans ⟨hb.os, hb.tape, hb.output, hb.size, fun i hi => hb.block i (by omega)⟩⟩
    have HX := Av.mk ((hb.block w.heap.size (by omega)).trans X.out)
    have hsz : w.heap.size + 1 ≤ wr.heap.size := by have := hb.size; have := HZ.out; omega
    clear hrow hb
    by_cases hlt : k < PL.length
    · obtain ⟨u, hu⟩ : ∃ u, PL[k]? = some u := ⟨_, List.getElem?_eq_getElem hlt⟩
      have c0 : wr.cell? ⟨w.heap.size, k, none⟩ = some (.string u) := by
        rw [Blk.cell (t := 9) (cs := (PL.map Value.string).toArray) HX.out]
        simp [hu]
      have lx := Blk.lt (t := 9) (cs := (PL.map Value.string).toArray) HX.out
      have HU := Av.mk hu
      have hpo := Av.mk (partOk_of u)
      clear hu
      have HA1 : partOk u.data.toList = true → ∀ (j : Nat) v, j < k + 1 → PL[j]? = some v → partOk v.data.toList = true := fun hp j v hj hv => by
        rcases Nat.lt_or_ge j k with h | h
        · exact HA.out j v h hv
        · obtain rfl : j = k := by omega
          rw [HU.out] at hv
          cases hv
          exact hp
      have HA2 := Av.mk HA1
      clear HA1
      by_cases u0 : u.toList = []
      · have HA3 := Av.mk (HA2.out (by rw [hpo.out]; simp [u0]))
        go_wp2_with fail
        exact ⟨⟨k + 1, A, n, c, xs, by omega, by omega, by go_num, rfl, HRW.out, HB.out, ⟨HA3.out⟩⟩, by simp [intOf]; omega⟩
      by_cases u1 : u.toList = [46]
      · have HA3 := Av.mk (HA2.out (by rw [hpo.out]; simp [u1]))
        go_wp2_with fail
        exact ⟨⟨k + 1, A, n, c, xs, by omega, by omega, by go_num, rfl, HRW.out, HB.out, ⟨HA3.out⟩⟩, by simp [intOf]; omega⟩
      by_cases u2 : u.toList = [46, 46]
      · have HA3 := Av.mk (HA2.out (by rw [hpo.out]; simp [u2]))
        go_wp2_with (first | (at_builtin; refine wpList_app rfl _ _ 23 rfl (w.heap.size + 1) 9 i0 _ 1 16 Tryd.underlying23 I9.out.1 I9.out.2.1 I9.out.2.2.1 I9.out.2.2.2 (by rfl) (by decide) (.slice A n c) n xs rfl (HRW.out.alloc _) ⟨wr.heap.size, 0, none⟩ 1 1 [.string u] rfl rfl (new_cells wr [.string u] 9) (by simp [Value.oneCell']) (by unfold maxLen; omega) (by omega) (by simp; omega) ?_; intro A4 c4 w4 ho4 hg4 _; have HO4 := Av.mk ho4; have HG4 := Av.mk hg4; clear ho4 hg4))
        have hb4 : Below (w.heap.size + 1) w1 w4 := (HB.out.alloc hsz _).grown HG4.out (by simp; omega) (fun k hk => row_base HRW.out k hk.symm)
        exact ⟨⟨k + 1, A4, n + 1, c4, _, by omega, by omega, by go_num, rfl, HO4.out, hb4, ⟨HA3.out⟩⟩, by simp [intOf]; omega⟩
      have HN := Av.mk (name_calls u (nameC_all u (by have := HSZ.out k u HU.out; omega)) wr (by have := HSZ.out k u HU.out; omega))
      have v0 : u.toList.isEmpty = false := by simpa using u0
      have v1 : (u.toList == [46]) = false := by simpa using u1
      have v2 : (u.toList == [46, 46]) = false := by simpa using u2
      cases hno : nameOk u
      · have HRF : Av (splitOk s = false) := ⟨by
          rw [HR.out, List.all_eq_false]
          refine ⟨u.data.toList, List.mem_map.2 ⟨u, List.mem_of_getElem? HU.out, rfl⟩, ?_⟩
          rw [hpo.out]; simp [u0, u1, u2, hno]⟩
        rw [hno] at HN
        go_wp2_with fail
        refine HN.out.mono ?_
        rintro e w3 ⟨rfl, hb3⟩
        have HB3 : Av (Bel w w3) := ⟨below_then HBw.out (Below.size HBw.out) hb3⟩
        clear hb3
        go_wp2_with fail
        go_ret3
        exact ⟨none, 0, 0, false, 1, rfl, HRF.out, HB3.out⟩
      · have HA3 := Av.mk (HA2.out (by rw [hpo.out]; simp [hno]))
        rw [hno] at HN
        go_wp2_with fail
        refine HN.out.mono ?_
        rintro e w3 ⟨rfl, hb3⟩
        have HRW3 := Av.mk (row_keep HRW.out (Keep.of_below (S := fun _ => False) hb3) (by simp))
        have HB3 : Av (Below (w.heap.size + 1) w1 w3) := ⟨below_then HB.out hsz hb3⟩
        have hsz3 : w.heap.size + 1 ≤ w3.heap.size := Nat.le_trans hsz hb3.size
        clear hb3
        go_wp2_with (first | (at_builtin; refine wpList_app rfl _ _ 23 rfl (w.heap.size + 1) 9 i0 _ 1 16 Tryd.underlying23 I9.out.1 I9.out.2.1 I9.out.2.2.1 I9.out.2.2.2 (by rfl) (by decide) (.slice A n c) n xs rfl (HRW3.out.alloc _) ⟨w3.heap.size, 0, none⟩ 1 1 [.string u] rfl rfl (new_cells w3 [.string u] 9) (by simp [Value.oneCell']) (by unfold maxLen; omega) (by omega) (by simp; omega) ?_; intro A4 c4 w4 ho4 hg4 _; have HO4 := Av.mk ho4; have HG4 := Av.mk hg4; clear ho4 hg4))
        have hb4 : Below (w.heap.size + 1) w1 w4 := (HB3.out.alloc hsz3 _).grown HG4.out (by simp; omega) (fun k hk => row_base HRW3.out k hk.symm)
        exact ⟨⟨k + 1, A4, n + 1, c4, _, by omega, by omega, by go_num, rfl, HO4.out, hb4, ⟨HA3.out⟩⟩, by simp [intOf]; omega⟩
    · obtain rfl : k = PL.length := by omega
      have HRT : Av (splitOk s = true) := ⟨by
        rw [HR.out, List.all_eq_true]
        intro p hp
        obtain ⟨u, hu, rfl⟩ := List.mem_map.1 hp
        obtain ⟨j, hj⟩ := List.getElem?_of_mem hu
        exact HA.out j u (List.getElem?_eq_some_iff.1 hj).1 hj⟩
      have hpos : 0 < s.size := by
        rcases Nat.eq_zero_or_pos s.size with h | h
        · exact absurd ((empty_iff s).2 h) (by simp [e0])
        · exact h
      go_upto_region 11 with (fail)
      go_region
      go_wp2_with fail
      go_ret3
      exact ⟨A, n, c, _, 0, rfl, HRT.out, below_drewN HBw.out 1⟩
/-- Any link's text. -/
theorem ptC_all (s : ByteArray) (hs : s.size ≤ 1000000000) : PtC s := ⟨splitC_all s (by omega), hs⟩
end Go.Proofs.YtkmojgdjapfbbaaDoor
