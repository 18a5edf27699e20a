/- slices.Clone of extents and of mounts. Printed as Cl's. -/
import Derived.Test.YtkmojgdjapfbbaaDoorCl
import Derived.Test.YtkmojgdjapfbbaaDoorOf
namespace Go.Proofs.YtkmojgdjapfbbaaDoor
open Go.RowKit Go.Maps
set_option linter.unusedSimpArgs false
set_option linter.unusedVariables false

set_option maxHeartbeats 1000000 in
theorem clone107 (B : Nat → Prop) (w : World) (A : Option Addr) (n c : Nat) (cs : List Value) (h : Sl B w 2 (.slice A n c) n cs) (h1 : ∀ u ∈ cs, u.oneCell' = true) (hn : n ≤ 100000000) :
    Calls Tryd.prog 96 #[.slice A n c] w (CloneP 107 2 n cs w) := by
  obtain ⟨i0, hi0⟩ := info107
  have I := Av.mk hi0
  have H := Av.mk h
  have H1 := Av.mk h1
  have hq := fun (w : World) => Lib.run_eql_slice_nil w 31 107 A n c 0 0 Tryd.underlying31
  clear hi0 h h1
  cases A with
  | none =>
    have hn0 : n = 0 := by
      rcases Nat.eq_zero_or_pos n with h | h
      · exact h
      · obtain ⟨b, off, e, _⟩ := H.out.at h
        cases e
    subst hn0
    have hcs : cs = [] := List.eq_nil_of_length_eq_zero (by simpa using H.out.1)
    subst hcs
    go_enter Tryd.func96, Tryd.ntmps96
    go_wp2_with fail
    go_ret
    exact ⟨none, 0, rfl, ⟨rfl, .inl ⟨rfl, rfl⟩⟩, Below.refl _ _⟩
  | some ad =>
    have HO : Av ((w.alloc (.cells #[] 107)).ownsRow w.heap.size 107 2 (.slice (some ⟨w.heap.size, 0, none⟩) 0 0) 0 []) := ⟨⟨rfl, .inr ⟨w.heap.size, 0, #[], rfl, Nat.le_refl _, heap_alloc_new w _, Nat.le_refl _, by unfold maxLen; omega, rfl, rfl⟩⟩⟩
    have HN : Av (∀ (j : Nat) u, cs[j]? = some u → (w.alloc (.cells #[] 107)).cell? (ad.add j) = some u) := ⟨fun j u hj => by
      have hjl : j < cs.length := (List.getElem?_eq_some_iff.1 hj).1
      have hs := H.out.1
      obtain ⟨b, off, e, _, _, hbl, hc⟩ := (H.out.grow (below_alloc (Below.refl _ w) (.cells #[] 107))).at (by
        rcases Nat.eq_zero_or_pos n with h0 | h0
        · rw [h0] at hs; omega
        · exact h0)
      cases e
      rw [Addr.add_lit, hc j (by omega)]
      exact hj⟩
    go_enter Tryd.func96, Tryd.ntmps96
    go_wp2_with (first | (at_builtin; refine wpList_app rfl _ _ 31 rfl w.heap.size 107 i0 _ 2 24 Tryd.underlying31 I.out.1 I.out.2.1 I.out.2.2.1 I.out.2.2.2 (by rfl) (by decide) (.slice (some ⟨w.heap.size, 0, none⟩) 0 0) 0 [] rfl HO.out ad n c cs rfl H.out.1 HN.out H1.out (by unfold maxLen; omega) (by omega) (by simp) ?_; intro A' c' w5 ho5 hg5 _; have HO5 := Av.mk ho5; have HG5 := Av.mk hg5; clear ho5 hg5))
    go_ret
    have ho := HO5.out
    rw [Nat.zero_add, List.nil_append] at ho
    have hb : Below w.heap.size w w5 := (below_alloc (Below.refl _ w) (.cells #[] 107)).grown HG5.out (by simp) (fun k hk => by cases hk; exact Nat.le_refl _)
    exact ⟨A', c', rfl, ho, hb⟩

theorem info85 : ∃ i, Tryd.prog.info? 85 = some i ∧ i.zero = some (.agg #[.int .i64 0, .pointer none]) ∧ i.size = 2 ∧ i.bytes = 16 := by
  have h : (Tryd.prog.info? 85).map (fun i => (i.zero, i.size, i.bytes)) = some (some (.agg #[.int .i64 0, .pointer none]), 2, 16) := by kernel_rfl
  obtain ⟨i, hi, e⟩ := Option.map_eq_some_iff.1 h
  simp only [Prod.mk.injEq] at e
  exact ⟨i, hi, e.1, e.2.1, e.2.2⟩
set_option maxHeartbeats 1000000 in
theorem clone85 (B : Nat → Prop) (w : World) (A : Option Addr) (n c : Nat) (cs : List Value) (h : Sl B w 2 (.slice A n c) n cs) (h1 : ∀ u ∈ cs, u.oneCell' = true) (hn : n ≤ 100000000) :
    Calls Tryd.prog 43 #[.slice A n c] w (CloneP 85 2 n cs w) := by
  obtain ⟨i0, hi0⟩ := info85
  have I := Av.mk hi0
  have H := Av.mk h
  have H1 := Av.mk h1
  have hq := fun (w : World) => Lib.run_eql_slice_nil w 26 85 A n c 0 0 Tryd.underlying26
  clear hi0 h h1
  cases A with
  | none =>
    have hn0 : n = 0 := by
      rcases Nat.eq_zero_or_pos n with h | h
      · exact h
      · obtain ⟨b, off, e, _⟩ := H.out.at h
        cases e
    subst hn0
    have hcs : cs = [] := List.eq_nil_of_length_eq_zero (by simpa using H.out.1)
    subst hcs
    go_enter Tryd.func43, Tryd.ntmps43
    go_wp2_with fail
    go_ret
    exact ⟨none, 0, rfl, ⟨rfl, .inl ⟨rfl, rfl⟩⟩, Below.refl _ _⟩
  | some ad =>
    have HO : Av ((w.alloc (.cells #[] 85)).ownsRow w.heap.size 85 2 (.slice (some ⟨w.heap.size, 0, none⟩) 0 0) 0 []) := ⟨⟨rfl, .inr ⟨w.heap.size, 0, #[], rfl, Nat.le_refl _, heap_alloc_new w _, Nat.le_refl _, by unfold maxLen; omega, rfl, rfl⟩⟩⟩
    have HN : Av (∀ (j : Nat) u, cs[j]? = some u → (w.alloc (.cells #[] 85)).cell? (ad.add j) = some u) := ⟨fun j u hj => by
      have hjl : j < cs.length := (List.getElem?_eq_some_iff.1 hj).1
      have hs := H.out.1
      obtain ⟨b, off, e, _, _, hbl, hc⟩ := (H.out.grow (below_alloc (Below.refl _ w) (.cells #[] 85))).at (by
        rcases Nat.eq_zero_or_pos n with h0 | h0
        · rw [h0] at hs; omega
        · exact h0)
      cases e
      rw [Addr.add_lit, hc j (by omega)]
      exact hj⟩
    go_enter Tryd.func43, Tryd.ntmps43
    go_wp2_with (first | (at_builtin; refine wpList_app rfl _ _ 26 rfl w.heap.size 85 i0 _ 2 16 Tryd.underlying26 I.out.1 I.out.2.1 I.out.2.2.1 I.out.2.2.2 (by rfl) (by decide) (.slice (some ⟨w.heap.size, 0, none⟩) 0 0) 0 [] rfl HO.out ad n c cs rfl H.out.1 HN.out H1.out (by unfold maxLen; omega) (by omega) (by simp) ?_; intro A' c' w5 ho5 hg5 _; have HO5 := Av.mk ho5; have HG5 := Av.mk hg5; clear ho5 hg5))
    go_ret
    have ho := HO5.out
    rw [Nat.zero_add, List.nil_append] at ho
    have hb : Below w.heap.size w w5 := (below_alloc (Below.refl _ w) (.cells #[] 85)).grown HG5.out (by simp) (fun k hk => by cases hk; exact Nat.le_refl _)
    exact ⟨A', c', rfl, ho, hb⟩
end Go.Proofs.YtkmojgdjapfbbaaDoor
