/- The gate: Write that turns it. -/
import Derived.Test.YtjehcdedljckbaaGate4
namespace Go.Proofs.Ytjehcdedljckbaa
open Go.RowKit Go.Maps
set_option linter.unusedSimpArgs false
set_option linter.unusedVariables false

theorem run_tail (a : Option Addr) (n c : Nat) (w : World) : (Instr.slice 45 (.slice a (n + 1) c) (some (.int .i64 1)) none none).run Try.prog w = .ok (sliced a 1 (n + 1) c 1) w := by
  have hs : (sizeOf (Try.prog.elem 45)).run Try.prog w = .ok 1 w := by kernel_rfl
  rw [run_slice_l w 45 a (n + 1) c (by kernel_rfl) .i64 1 (by omega) (by omega), hs]
  simp

section
variable {w w' : World} {base g : Nat} {rv : Value} {D : DataW Unit} {W : Int} {qv : Value} {Q : List Int}
theorem ints_snoc (Q : List Int) (id : Int) : ints (Q ++ [id]) = ints Q ++ [.int .i64 id] := by simp [ints]
theorem Gt.app (h : Gt w base g rv D W qv Q) {v' : Value} {Q' : List Int} (hq : QRow w' base 3 v' (ints Q')) (hg : w.grownBy w' qv.ownBlock) : Gt (w'.setCell ⟨g, 2, none⟩ v') base g rv D W v' Q' := by
  have hk : Keep (fun k => qv.ownBlock = some k) w w' := grown_keep hg (fun k e => e)
  have hb := h.blk.keep hk (fun e => h.q.ne_blk h.blk (by decide) _ e rfl)
  have hr := h.rm.keep hk (fun b e e' => h.rm.ne_q h.q _ e b e' rfl)
  have hs := (Keep.refl (fun k => k = g) w').setCell (p := ⟨g, 2, none⟩) (fun _ => rfl) v'
  exact ⟨by simpa using hb.set_ 2 v', hr.keep hs (hr.ne_blk hb), hq.keep hs (hq.ne_blk hb (by decide)), h.hg⟩

/-- One who waits from now on. -/
theorem Write_add (h : Gt w base g rv D W qv Q) (id : Int) (h0 : 0 ≤ id) (h1 : id ≤ 1000) (hin : isIn D W id = false) (hQ : id ∉ Q) (hl : Q.length ≤ 1000) (hno : Q ≠ [] ∨ W ≠ 0 ∨ 0 < Maps.size D) :
    Calls Try.prog 17 #[.pointer (some ⟨g, 0, none⟩), .int .i64 id] w (GtP (.bool false) base g rv D W qv (Q ++ [id]) w) := by
  have HIN := Av.mk (In_calls h id h0 h1)
  rw [hin] at HIN
  have H := Av.mk h
  obtain ⟨p1, p3⟩ := plc_not hQ
  have HP : Av (∀ w1, Gt w1 base g rv D W qv Q → Calls Try.prog 20 #[.pointer (some ⟨g, 0, none⟩), .int .i64 id] w1 fun e w' => e = .returned (.int .i64 (-1)) ∧ w1 = w') :=
    ⟨fun w1 hw => by have := place_calls hw id hl Q.length (Nat.le_refl _) p3 (fun h => absurd h (by omega)); rw [p1] at this; exact this⟩
  obtain ⟨i0, hi0⟩ := info3
  have I := Av.mk hi0
  have HL := Av.mk hl
  obtain ⟨a0, c0', hqv, _⟩ := h.q.shape
  simp only [ints, List.length_map] at hqv
  subst hqv
  clear h hin p1 p3 hl hi0
  have go : ∀ (a b : Bool), (decide (0 < Q.length) = a) → ((W != 0) = b) → (a = false → b = false → decide (0 < Maps.size D) = true) → Calls Try.prog 17 #[.pointer (some ⟨g, 0, none⟩), .int .i64 id] w (GtP (.bool false) base g rv D W (.slice a0 Q.length c0') (Q ++ [id]) w) := by
    intro a b ha hb hc
    cases a <;> cases b
    all_goals
      try have hd := hc rfl rfl
      clear hc hno
      go_enter Try.func17, Try.ntmps17
      go_wp2_with fail
      refine HIN.out.mono ?_
      rintro e w1 ⟨rfl, hbl⟩
      have H1 := Av.mk (H.out.below hbl)
      have K1 := Av.mk (keep0 (g := g) (rv := rv) (qv := .slice a0 Q.length c0') hbl)
      have hbs : base ≤ w1.heap.size := by have := H.out.hg; have := H1.out.blk.lt; omega
      clear hbl
      go_wp2_with fail
      refine (HP.out w1 H1.out).mono ?_
      rintro e _ ⟨rfl, rfl⟩
      have c2 := H1.out.blk.cell 2
      have f2 := H1.out.blk.frozen 2
      have lg := H1.out.blk.lt
      simp at c2
      have hba := below_alloc (Below.refl _ w1) (.cells #[.int .i64 id] 3)
      have H2 := Av.mk (H1.out.below hba)
      have K2 := Av.mk (K1.out.alloc (.cells #[.int .i64 id] 3))
      have X2 := Av.mk (Blk.new w1 3 #[.int .i64 id])
      clear hba
      go_wp2_with (first | (at_builtin; refine wpList_append_q rfl _ _ 45 rfl base 3 i0 (.int .i64 0) 8 Try.underlying45 I.out.1 I.out.2.1 I.out.2.2.1 I.out.2.2.2 rfl (.slice a0 Q.length c0') (ints Q) rfl H2.out.q ⟨w1.heap.size, 0, none⟩ 1 (.int .i64 id) rfl (X2.out.cell 0) rfl (by have := HL.out; simp [ints]; omega) (by decide) (by simp; omega) ?_; intro v' w3 hq3 hg3 hn3; obtain ⟨av, cv, hv', _⟩ := hq3.shape; rw [show (ints Q ++ [Value.int .i64 id]).length = Q.length + 1 from by simp [ints]] at hv'; subst hv'; have HQ3 := Av.mk hq3; have HG3 := Av.mk hg3; have HN3 := Av.mk hn3; clear hq3 hg3 hn3; have lg3 : g < w3.heap.size := Nat.lt_of_lt_of_le (by simp; omega) HG3.out.size; have B3 := Av.mk (H2.out.blk.grown HG3.out (fun e => H2.out.q.ne_blk H2.out.blk (by decide) g e.symm rfl)); have f3 := B3.out.frozen 2; have H4 := Av.mk (H2.out.app (Q' := Q ++ [id]) (by rw [ints_snoc]; exact HQ3.out) HG3.out); have d0 := B3.out.cell 0; have d1 := B3.out.cell 1; have d2 := B3.out.cell 2; simp at d0 d1 d2; have hlen := fun ty => H4.out.rm.run_len ty))
      go_ret
      refine ⟨rv, .slice av (Q.length + 1) cv, rfl, H4.out, keepg (K2.out.trans (grown_keep HG3.out (fun k e => .inr (.inr e)))) 2 _, Near.refl _ _, fun k hk => ?_⟩
      rcases HN3.out k hk with h | h
      · exact .inl h
      · exact .inr (by have := K2.out.size; omega)
  refine go _ _ rfl rfl fun ha hb => ?_
  have ha' : ¬ 0 < Q.length := by simpa using ha
  have hb' : W = 0 := by simpa using hb
  rcases hno with h | h | h
  · exact absurd (List.eq_nil_of_length_eq_zero (by omega)) h
  · exact absurd hb' h
  · simpa using h
end
end Go.Proofs.Ytjehcdedljckbaa
