/- slices.Clone. Printed by gen_clone.py. -/
import Derived.Test.YtkmojgdjapfbbaaDoorTr
import Derived.Test.YtkmojgdjapfbbaaDoorXr
namespace Go.Proofs.YtkmojgdjapfbbaaDoor
open Go.RowKit Go.Maps
set_option linter.unusedSimpArgs false
set_option linter.unusedVariables false

def CloneP (el size n : Nat) (cs : List Value) (w : World) (e : Ending) (w' : World) : Prop :=
  ∃ A c, e = .returned (.slice A n c) ∧ w'.ownsRow w.heap.size el size (.slice A n c) n cs ∧ Below w.heap.size w w'
theorem info9 : ∃ i, Tryd.prog.info? 9 = some i ∧ i.zero = some (.string ⟨#[]⟩) ∧ i.size = 1 ∧ i.bytes = 16 := by
  have h : (Tryd.prog.info? 9).map (fun i => (i.zero, i.size, i.bytes)) = some (some (.string ⟨#[]⟩), 1, 16) := by kernel_rfl
  obtain ⟨i, hi, e⟩ := Option.map_eq_some_iff.1 h
  simp only [Prod.mk.injEq] at e
  exact ⟨i, hi, e.1, e.2.1, e.2.2⟩
set_option maxHeartbeats 1000000 in
theorem clone9 (B : Nat → Prop) (w : World) (A : Option Addr) (n c : Nat) (cs : List Value) (h : Sl B w 1 (.slice A n c) n cs) (h1 : ∀ u ∈ cs, u.oneCell' = true) (hn : n ≤ 100000000) :
    Calls Tryd.prog 38 #[.slice A n c] w (CloneP 9 1 n cs w) := by
  obtain ⟨i0, hi0⟩ := info9
  have I := Av.mk hi0
  have H := Av.mk h
  have H1 := Av.mk h1
  have hq := fun (w : World) => Lib.run_eql_slice_nil w 23 9 A n c 0 0 Tryd.underlying23
  clear hi0 h h1
  cases A with
  | none =>
    have hn0 : n = 0 := by
      rcases Nat.eq_zero_or_pos n with h | h
      · exact h
      · obtain ⟨b, off, e, _⟩ := H.out.at h
        cases e
    subst hn0
    have hcs : cs = [] := List.eq_nil_of_length_eq_zero (by simpa using H.out.1)
    subst hcs
    go_enter Tryd.func38, Tryd.ntmps38
    go_wp2_with fail
    go_ret
    exact ⟨none, 0, rfl, ⟨rfl, .inl ⟨rfl, rfl⟩⟩, Below.refl _ _⟩
  | some ad =>
    have HO : Av ((w.alloc (.cells #[] 9)).ownsRow w.heap.size 9 1 (.slice (some ⟨w.heap.size, 0, none⟩) 0 0) 0 []) := ⟨⟨rfl, .inr ⟨w.heap.size, 0, #[], rfl, Nat.le_refl _, heap_alloc_new w _, Nat.le_refl _, by unfold maxLen; omega, rfl, rfl⟩⟩⟩
    have HN : Av (∀ (j : Nat) u, cs[j]? = some u → (w.alloc (.cells #[] 9)).cell? (ad.add j) = some u) := ⟨fun j u hj => by
      have hjl : j < cs.length := (List.getElem?_eq_some_iff.1 hj).1
      have hs := H.out.1
      obtain ⟨b, off, e, _, _, hbl, hc⟩ := (H.out.grow (below_alloc (Below.refl _ w) (.cells #[] 9))).at (by
        rcases Nat.eq_zero_or_pos n with h0 | h0
        · rw [h0] at hs; omega
        · exact h0)
      cases e
      rw [Addr.add_lit, hc j (by omega)]
      exact hj⟩
    go_enter Tryd.func38, Tryd.ntmps38
    go_wp2_with (first | (at_builtin; refine wpList_app rfl _ _ 23 rfl w.heap.size 9 i0 _ 1 16 Tryd.underlying23 I.out.1 I.out.2.1 I.out.2.2.1 I.out.2.2.2 (by rfl) (by decide) (.slice (some ⟨w.heap.size, 0, none⟩) 0 0) 0 [] rfl HO.out ad n c cs rfl H.out.1 HN.out H1.out (by unfold maxLen; omega) (by omega) (by simp) ?_; intro A' c' w5 ho5 hg5 _; have HO5 := Av.mk ho5; have HG5 := Av.mk hg5; clear ho5 hg5))
    go_ret
    have ho := HO5.out
    rw [Nat.zero_add, List.nil_append] at ho
    have hb : Below w.heap.size w w5 := (below_alloc (Below.refl _ w) (.cells #[] 9)).grown HG5.out (by simp) (fun k hk => by cases hk; exact Nat.le_refl _)
    exact ⟨A', c', rfl, ho, hb⟩

theorem info33 : ∃ i, Tryd.prog.info? 33 = some i ∧ i.zero = some (.agg #[.int .i64 0, .bool false, .slice none 0 0, .slice none 0 0, .int .i64 0, .slice none 0 0, .string ⟨#[]⟩]) ∧ i.size = 7 ∧ i.bytes = 112 := by
  have h : (Tryd.prog.info? 33).map (fun i => (i.zero, i.size, i.bytes)) = some (some (.agg #[.int .i64 0, .bool false, .slice none 0 0, .slice none 0 0, .int .i64 0, .slice none 0 0, .string ⟨#[]⟩]), 7, 112) := by kernel_rfl
  obtain ⟨i, hi, e⟩ := Option.map_eq_some_iff.1 h
  simp only [Prod.mk.injEq] at e
  exact ⟨i, hi, e.1, e.2.1, e.2.2⟩
set_option maxHeartbeats 1000000 in
theorem clone33 (B : Nat → Prop) (w : World) (A : Option Addr) (n c : Nat) (cs : List Value) (h : Sl B w 7 (.slice A n c) n cs) (h1 : ∀ u ∈ cs, u.oneCell' = true) (hn : n ≤ 100000000) :
    Calls Tryd.prog 39 #[.slice A n c] w (CloneP 33 7 n cs w) := by
  obtain ⟨i0, hi0⟩ := info33
  have I := Av.mk hi0
  have H := Av.mk h
  have H1 := Av.mk h1
  have hq := fun (w : World) => Lib.run_eql_slice_nil w 22 33 A n c 0 0 Tryd.underlying22
  clear hi0 h h1
  cases A with
  | none =>
    have hn0 : n = 0 := by
      rcases Nat.eq_zero_or_pos n with h | h
      · exact h
      · obtain ⟨b, off, e, _⟩ := H.out.at h
        cases e
    subst hn0
    have hcs : cs = [] := List.eq_nil_of_length_eq_zero (by simpa using H.out.1)
    subst hcs
    go_enter Tryd.func39, Tryd.ntmps39
    go_wp2_with fail
    go_ret
    exact ⟨none, 0, rfl, ⟨rfl, .inl ⟨rfl, rfl⟩⟩, Below.refl _ _⟩
  | some ad =>
    have HO : Av ((w.alloc (.cells #[] 33)).ownsRow w.heap.size 33 7 (.slice (some ⟨w.heap.size, 0, none⟩) 0 0) 0 []) := ⟨⟨rfl, .inr ⟨w.heap.size, 0, #[], rfl, Nat.le_refl _, heap_alloc_new w _, Nat.le_refl _, by unfold maxLen; omega, rfl, rfl⟩⟩⟩
    have HN : Av (∀ (j : Nat) u, cs[j]? = some u → (w.alloc (.cells #[] 33)).cell? (ad.add j) = some u) := ⟨fun j u hj => by
      have hjl : j < cs.length := (List.getElem?_eq_some_iff.1 hj).1
      have hs := H.out.1
      obtain ⟨b, off, e, _, _, hbl, hc⟩ := (H.out.grow (below_alloc (Below.refl _ w) (.cells #[] 33))).at (by
        rcases Nat.eq_zero_or_pos n with h0 | h0
        · rw [h0] at hs; omega
        · exact h0)
      cases e
      rw [Addr.add_lit, hc j (by omega)]
      exact hj⟩
    go_enter Tryd.func39, Tryd.ntmps39
    go_wp2_with (first | (at_builtin; refine wpList_app rfl _ _ 22 rfl w.heap.size 33 i0 _ 7 112 Tryd.underlying22 I.out.1 I.out.2.1 I.out.2.2.1 I.out.2.2.2 (by rfl) (by decide) (.slice (some ⟨w.heap.size, 0, none⟩) 0 0) 0 [] rfl HO.out ad n c cs rfl H.out.1 HN.out H1.out (by unfold maxLen; omega) (by omega) (by simp) ?_; intro A' c' w5 ho5 hg5 _; have HO5 := Av.mk ho5; have HG5 := Av.mk hg5; clear ho5 hg5))
    go_ret
    have ho := HO5.out
    rw [Nat.zero_add, List.nil_append] at ho
    have hb : Below w.heap.size w w5 := (below_alloc (Below.refl _ w) (.cells #[] 33)).grown HG5.out (by simp) (fun k hk => by cases hk; exact Nat.le_refl _)
    exact ⟨A', c', rfl, ho, hb⟩
end Go.Proofs.YtkmojgdjapfbbaaDoor
