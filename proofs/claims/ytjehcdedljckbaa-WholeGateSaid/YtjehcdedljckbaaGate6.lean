/- The gate: Write that comes in. -/
import Derived.Test.YtjehcdedljckbaaGate5
namespace Go.Proofs.Ytjehcdedljckbaa
open Go.RowKit Go.Maps
set_option linter.unusedSimpArgs false
set_option linter.unusedVariables false

section
variable {w w' : World} {base g : Nat} {rv : Value} {D : DataW Unit} {W : Int} {qv : Value} {Q : List Int}
theorem tail_of {base : Nat} {a0 : Option Addr} {c0 : Nat} {x : Int} {B : List Int} (h : QRow w base 3 (.slice a0 (B.length + 1) c0) (ints (x :: B))) :
    ∃ ad cs, sliced a0 1 (B.length + 1) c0 1 = .slice ad B.length cs ∧ Av (QRow w base 3 (.slice ad B.length cs) (ints B) ∧ ∀ k, (Value.slice ad B.length cs).ownBlock = some k → (Value.slice a0 (B.length + 1) c0).ownBlock = some k) := by
  obtain ⟨a, n, c, e, hn, ht1, ht2⟩ := h.tail
  injection e with e1 e2 e3
  subst e1 e2 e3
  obtain ⟨ad, cs, hsv, _⟩ := ht1.shape
  simp only [ints, List.length_map] at hsv
  rw [hsv] at ht1 ht2
  exact ⟨ad, cs, hsv, ⟨ht1, ht2⟩⟩
/-- The first one of those who wait comes in. -/
theorem Write_go {B : List Int} {id : Int} (h : Gt w base g rv D 0 qv (id :: B)) (h0 : 0 ≤ id) (h1 : id ≤ 1000) (hin : isIn D 0 id = false) (hl : B.length ≤ 900) (hsz : Maps.size D = 0) :
    Calls Try.prog 17 #[.pointer (some ⟨g, 0, none⟩), .int .i64 id] w (GtP (.bool true) base g rv D (id + 1) qv B w) := by
  have HIN := Av.mk (In_calls h id h0 h1)
  rw [hin] at HIN
  have H := Av.mk h
  obtain ⟨p1, p2, p3, p4⟩ := plc_at (A := []) (B := B) (id := id) (by simp)
  have HP : Av (∀ w1, Gt w1 base g rv D 0 qv (id :: B) → Calls Try.prog 20 #[.pointer (some ⟨g, 0, none⟩), .int .i64 id] w1 fun e w' => e = .returned (.int .i64 0) ∧ w1 = w') :=
    ⟨fun w1 hw => by have := place_calls hw id (by simp; omega) 0 p2 p3 p4; rw [show plc (id :: B) 0 = 0 from p1] at this; exact this⟩
  have hd : decide (0 < Maps.size D) = false := by simp [hsz]
  obtain ⟨a0, n0, c0', hqv, hn0, _, _⟩ := h.q.tail
  subst hqv
  rw [show n0 = B.length + 1 from by simpa using hn0] at *
  clear h hin p1 p2 p3 p4 hsz hn0
  go_enter Try.func17, Try.ntmps17
  go_wp2_with fail
  refine HIN.out.mono ?_
  rintro e w1 ⟨rfl, hbl⟩
  have H1 := Av.mk (H.out.below hbl)
  have K1 := Av.mk (keep0 (g := g) (rv := rv) (qv := .slice a0 (B.length + 1) c0') hbl)
  clear hbl
  go_wp2_with fail
  refine (HP.out w1 H1.out).mono ?_
  rintro e _ ⟨rfl, rfl⟩
  have d0 := H1.out.blk.cell 0
  have d1 := H1.out.blk.cell 1
  have d2 := H1.out.blk.cell 2
  have f1 := H1.out.blk.frozen 1
  have f2 := H1.out.blk.frozen 2
  have lg := H1.out.blk.lt
  simp at d0 d1 d2
  have hlen := fun ty => H1.out.rm.run_len ty
  have hsl := run_tail a0 B.length c0'
  have HT : Av (QRow w1 base 3 (sliced a0 1 (B.length + 1) c0' 1) (ints B) ∧ ∀ k, (sliced a0 1 (B.length + 1) c0' 1).ownBlock = some k → (Value.slice a0 (B.length + 1) c0').ownBlock = some k) := by
    obtain ⟨a, n, c, e, hn, ht1, ht2⟩ := H1.out.q.tail
    injection e with e1 e2 e3
    subst e1 e2 e3
    exact ⟨ht1, ht2⟩
  obtain ⟨ad, cs, hsv, _⟩ := HT.out.1.shape
  simp only [ints, List.length_map] at hsv
  rw [hsv] at hsl HT
  clear hsv
  go_wp2_with fail
  go_ret
  have H2 := (H1.out.setQ _ B HT.out.1).setW (id + 1)
  exact ⟨rv, .slice ad B.length cs, rfl, H2, keepg (keepg K1.out 2 _) 1 _, Near.refl _ _, fun k hk => .inl (HT.out.2 k hk)⟩

/-- Somebody comes in at once. -/
theorem Write_new (h : Gt w base g rv D 0 qv []) (id : Int) (h0 : 0 ≤ id) (h1 : id ≤ 1000) (hin : isIn D 0 id = false) (hsz : Maps.size D = 0) :
    Calls Try.prog 17 #[.pointer (some ⟨g, 0, none⟩), .int .i64 id] w (GtP (.bool true) base g rv D (id + 1) qv [] w) := by
  have HIN := Av.mk (In_calls h id h0 h1)
  rw [hin] at HIN
  have H := Av.mk h
  obtain ⟨p1, p3⟩ := plc_not (Q := []) (id := id) (by simp)
  have HP : Av (∀ w1, Gt w1 base g rv D 0 qv [] → Calls Try.prog 20 #[.pointer (some ⟨g, 0, none⟩), .int .i64 id] w1 fun e w' => e = .returned (.int .i64 (-1)) ∧ w1 = w') :=
    ⟨fun w1 hw => by have := place_calls hw id (by simp) 0 (Nat.le_refl _) p3 (fun h => absurd h (by simp)); rw [show plc [] 0 = -1 from p1] at this; exact this⟩
  have hd : decide (0 < Maps.size D) = false := by simp [hsz]
  obtain ⟨i0, hi0⟩ := info3
  have I := Av.mk hi0
  obtain ⟨a0, c0', hqv, _⟩ := h.q.shape
  simp only [ints, List.length_map, List.length_nil] at hqv
  subst hqv
  clear h hin p1 p3 hi0 hsz
  go_enter Try.func17, Try.ntmps17
  go_wp2_with fail
  refine HIN.out.mono ?_
  rintro e w1 ⟨rfl, hbl⟩
  have H1 := Av.mk (H.out.below hbl)
  have K1 := Av.mk (keep0 (g := g) (rv := rv) (qv := .slice a0 0 c0') hbl)
  have hbs : base ≤ w1.heap.size := by have := H.out.hg; have := H1.out.blk.lt; omega
  clear hbl
  go_wp2_with fail
  refine (HP.out w1 H1.out).mono ?_
  rintro e _ ⟨rfl, rfl⟩
  have c2 := H1.out.blk.cell 2
  have f2 := H1.out.blk.frozen 2
  have lg := H1.out.blk.lt
  simp at c2
  have hba := below_alloc (Below.refl _ w1) (.cells #[.int .i64 id] 3)
  have H2 := Av.mk (H1.out.below hba)
  have K2 := Av.mk (K1.out.alloc (.cells #[.int .i64 id] 3))
  have X2 := Av.mk (Blk.new w1 3 #[.int .i64 id])
  clear hba
  go_wp2_with (first | (at_builtin; refine wpList_append_q rfl _ _ 45 rfl base 3 i0 (.int .i64 0) 8 Try.underlying45 I.out.1 I.out.2.1 I.out.2.2.1 I.out.2.2.2 rfl (.slice a0 0 c0') (ints []) rfl H2.out.q ⟨w1.heap.size, 0, none⟩ 1 (.int .i64 id) rfl (X2.out.cell 0) rfl (by simp [ints]) (by decide) (by simp; omega) ?_; intro v' w3 hq3 hg3 hn3; obtain ⟨av, cv, hv', _⟩ := hq3.shape; rw [show (ints [] ++ [Value.int .i64 id]).length = 0 + 1 from by simp [ints]] at hv'; subst hv'; have HQ3 := Av.mk hq3; have HG3 := Av.mk hg3; have HN3 := Av.mk hn3; clear hq3 hg3 hn3; have lg3 : g < w3.heap.size := Nat.lt_of_lt_of_le (by simp; omega) HG3.out.size; have B3 := Av.mk (H2.out.blk.grown HG3.out (fun e => H2.out.q.ne_blk H2.out.blk (by decide) g e.symm rfl)); have f3 := B3.out.frozen 2; have f31 := B3.out.frozen 1; have H4 := Av.mk (H2.out.app (Q' := [id]) (by rw [show ints [id] = ints [] ++ [Value.int .i64 id] from rfl]; exact HQ3.out) HG3.out); have d0 := B3.out.cell 0; have d1 := B3.out.cell 1; have d2 := B3.out.cell 2; simp at d0 d1 d2; have hlen := fun ty => H4.out.rm.run_len ty; have hsl := run_tail av ([] : List Int).length cv; obtain ⟨ad, cs, hsv, HT⟩ := tail_of (B := []) H4.out.q; rw [hsv] at hsl; clear hsv; simp only [List.length_nil, Nat.zero_add] at hsl))
  go_ret
  have K4 := Av.mk (keepg (K2.out.trans (grown_keep HG3.out (fun k e => .inr (.inr e)))) 2 (.slice av (0 + 1) cv))
  have hz2 := K2.out.size
  have H5 := (H4.out.setQ _ [] HT.out.1).setW (id + 1)
  refine ⟨rv, .slice ad 0 cs, rfl, H5, keepg (keepg K4.out 2 _) 1 _, Near.refl _ _, fun k hk => ?_⟩
  rcases HN3.out k (HT.out.2 k hk) with h | h
  · exact .inl h
  · exact .inr (by omega)
end
end Go.Proofs.Ytjehcdedljckbaa
