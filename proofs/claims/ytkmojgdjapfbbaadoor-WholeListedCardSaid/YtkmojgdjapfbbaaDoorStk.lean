/- stack: Len, At, Add. -/
import Derived.Test.YtkmojgdjapfbbaaDoorBc
namespace Go.Proofs.YtkmojgdjapfbbaaDoor
open Go.RowKit Go.Maps
set_option linter.unusedSimpArgs false
set_option linter.unusedVariables false

/-- A branch of a stack. -/
structure Mt where
  id : Nat
  b : Nat
  xs : List Ino
def mtC (m : Mt) : List Value := [.int .i64 (m.id : Int), .pointer (some ⟨m.b, 0, none⟩)]
def StAt (w : World) (A : Option Addr) (c : Nat) (ms : List Mt) : Prop := Sl (IsT w 85) w 2 (.slice A ms.length c) ms.length (ms.flatMap mtC) ∧ ∀ m ∈ ms, BrAt w m.b m.xs
theorem StAt.grow {w w' : World} {A : Option Addr} {c : Nat} {ms : List Mt} (h : StAt w A c ms) (hb : Below w.heap.size w w') : StAt w' A c ms :=
  ⟨h.1.keepT (S := fun _ => False) (Keep.of_below hb) (fun _ _ => id), fun m hm => (h.2 m hm).grow hb⟩
theorem BrAt.keep {S : Nat → Prop} {w w' : World} {b : Nat} {xs : List Ino} (h : BrAt w b xs) (hk : Keep S w w') {e : TypeId} (h1 : e ≠ 110) (h2 : e ≠ 135) (h3 : e ≠ 9) (h4 : e ≠ 3) (hS : ∀ k, S k → IsT w e k) : BrAt w' b xs := by
  obtain ⟨C, base, A, c, rows, hm, ht⟩ := h
  exact ⟨C, base, A, c, rows, hm, ht.keep hk (fun h => h1 ((hS _ h).one ht.blk.isT)) (fun k ho h => h2 ((hS _ h).one (ht.own ho).1)) (fun k ho h => h3 ((hS _ h).one ho)) (fun k ho _ h => h4 ((hS _ h).one ho))⟩
theorem StAt.keep {S : Nat → Prop} {w w' : World} {A : Option Addr} {c : Nat} {ms : List Mt} (h : StAt w A c ms) (hk : Keep S w w') {e : TypeId} (h0 : e ≠ 85) (h1 : e ≠ 110) (h2 : e ≠ 135) (h3 : e ≠ 9) (h4 : e ≠ 3) (hS : ∀ k, S k → IsT w e k) : StAt w' A c ms :=
  ⟨h.1.keepT hk (fun k ho h => h0 ((hS _ h).one ho)), fun m hm => (h.2 m hm).keep hk h1 h2 h3 h4 hS⟩
theorem len_calls (A : Option Addr) (n c : Nat) (next : Int) (w : World) : Calls Tryd.prog 13 #[.agg #[.slice A n c, .int .i64 next]] w (RetB (.int .i64 (n : Int)) w) := by
  go_enter Tryd.func13, Tryd.ntmps13
  go_wp2_with fail
  go_ret
  exact ⟨rfl, below_alloc (Below.refl _ w) _⟩
def atR (ms : List Mt) (k : Nat) : Value := match ms[k]? with
  | some m => .pointer (some ⟨m.b, 0, none⟩)
  | none => .pointer none
set_option maxRecDepth 100000 in
theorem sat_calls {w : World} {A : Option Addr} {c : Nat} {ms : List Mt} (h : StAt w A c ms) (next : Int) (k : Nat) : Calls Tryd.prog 31 #[.agg #[.slice A ms.length c, .int .i64 next], .int .i64 k] w (RetB (atR ms k) w) := by
  have h1 := h.1.grow (below_alloc (Below.refl _ w) (.cells #[.slice A ms.length c, .int .i64 next] 28))
  by_cases hlt : k < ms.length
  · obtain ⟨m, hm⟩ : ∃ m, ms[k]? = some m := ⟨_, List.getElem?_eq_getElem hlt⟩
    have hR : atR ms k = .pointer (some ⟨m.b, 0, none⟩) := by unfold atR; rw [hm]
    rw [hR]
    obtain ⟨r, off, rfl, _, hrl, hcc, -, hall⟩ := h1.elem (f := mtC) (fun _ => rfl) (by omega) hm
    have d1 := hall 1 (by omega)
    simp [mtC] at d1
    clear hall h1 h hm hR
    generalize ms.length = n at *
    go_enter Tryd.func31, Tryd.ntmps31
    go_wp2_with fail
    go_ret
    exact ⟨rfl, below_alloc (Below.refl _ w) _⟩
  · have hR : atR ms k = .pointer none := by unfold atR; rw [List.getElem?_eq_none (by omega)]
    rw [hR]
    clear h h1 hR
    generalize ms.length = n at *
    go_enter Tryd.func31, Tryd.ntmps31
    go_wp2_with fail
    go_ret
    exact ⟨rfl, below_alloc (Below.refl _ w) _⟩
theorem bel_alloc_drew' (w : World) (o : Obj) : Bel w (w.drew.alloc o) := below_alloc (below_drewN (Below.refl _ w) 1) o
theorem wrap_next (next : Nat) (h : next ≤ 1000) : Value.int .i64 (IntKind.i64.wrap ((next : Int) + 1)) = .int .i64 ((next + 1 : Nat) : Int) := by
  have h2 : IntKind.i64.wrap ((next : Int) + 1) = (next : Int) + 1 := by rw [IntKind.wrap_i64]; omega
  have h3 : ((next + 1 : Nat) : Int) = (next : Int) + 1 := by omega
  rw [h2, h3]
theorem own_new (W : World) (e : TypeId) (size : Nat) (cs : List Value) (h : cs.length = size) : (W.alloc (.cells cs.toArray e)).ownsRow W.heap.size e size (.slice (some ⟨W.heap.size, 0, none⟩) 1 1) 1 cs :=
  ⟨by omega, .inr ⟨W.heap.size, 1, cs.toArray, rfl, Nat.le_refl _, heap_alloc_new W _, Nat.le_refl _, by unfold maxLen; omega, by simp; omega, by rw [Nat.one_mul]; simpa using List.take_of_length_le (by omega)⟩⟩
theorem Sl.news {B : Nat → Prop} {w : World} {size n c : Nat} {ad : Addr} {cs : List Value} (h : Sl B w size (.slice (some ad) n c) n cs) : ∀ (j : Nat) u, cs[j]? = some u → w.cell? (ad.add j) = some u := fun j u hj => by
  have hjl : j < cs.length := (List.getElem?_eq_some_iff.1 hj).1
  have hs := h.1
  obtain ⟨b, off, e, _, _, hbl, hc⟩ := h.at (by
    rcases Nat.eq_zero_or_pos n with h0 | h0
    · rw [h0] at hs; omega
    · exact h0)
  cases e
  rw [Addr.add_lit, hc j (by omega)]
  exact hj
theorem mtC_one (ms : List Mt) : ∀ u ∈ ms.flatMap mtC, u.oneCell' = true := by
  intro v hv
  obtain ⟨x, _, hv⟩ := List.mem_flatMap.1 hv
  simp only [mtC, List.mem_cons, List.not_mem_nil, or_false] at hv
  rcases hv with rfl | rfl <;> rfl
theorem mtC_len (ms : List Mt) : (ms.flatMap mtC).length = ms.length * 2 := flat_length mtC 2 (fun _ => rfl) ms
def AddStP (next : Nat) (ms : List Mt) (w : World) (e : Ending) (w' : World) : Prop :=
  ∃ A c, e = .returned (.tuple #[.agg #[.slice A ms.length c, .int .i64 ((next + 1 : Nat) : Int)], .int .i64 (next : Int), .int .i64 0]) ∧ StAt w' A c ms ∧ Bel w w'
set_option maxRecDepth 100000 in
set_option maxHeartbeats 4000000 in
theorem sadd_calls {w : World} {ad : Addr} {c : Nat} {ms : List Mt} (h : StAt w (some ad) c ms) (next b : Nat) (xs : List Ino) (hb : BrAt w b xs) (hn : ms.length < 64) (hnx : next ≤ 1000) :
    Calls Tryd.prog 72 #[.agg #[.slice (some ad) ms.length c, .int .i64 (next : Int)], .pointer (some ⟨b, 0, none⟩)] w (AddStP next (⟨next, b, xs⟩ :: ms) w) := by
  obtain ⟨i85, hi85⟩ := info85
  have I85 := Av.mk hi85
  have HS := Av.mk h
  have HBR := Av.mk hb
  clear hi85 h hb
  have X0 := Av.mk (Blk.new w 28 #[.slice (some ad) ms.length c, .int .i64 (next : Int)])
  have hba := below_alloc (below_alloc (Below.refl _ w) (.cells #[.slice (some ad) ms.length c, .int .i64 (next : Int)] 28)) (.cells #[.slice none 0 0, .int .i64 0] 28)
  have X1 := Av.mk (X0.out.alloc (.cells #[.slice none 0 0, .int .i64 0] 28))
  have Y1 := Av.mk (Blk.new (w.alloc (.cells #[.slice (some ad) ms.length c, .int .i64 (next : Int)] 28)) 28 #[.slice none 0 0, .int .i64 0])
  have hz : (w.alloc (.cells #[.slice (some ad) ms.length c, .int .i64 (next : Int)] 28)).heap.size = w.heap.size + 1 := by simp
  rw [hz] at Y1
  have HB1 : Av (Bel w ((w.alloc (.cells #[.slice (some ad) ms.length c, .int .i64 (next : Int)] 28)).alloc (.cells #[.slice none 0 0, .int .i64 0] 28))) := ⟨hba⟩
  clear hba hz X0
  go_enter Tryd.func72, Tryd.ntmps72
  go_upto_region 3 with (fail)
  have HS1 : Av (∀ W, Bel ((w.alloc (.cells #[.slice (some ad) ms.length c, .int .i64 (next : Int)] 28)).alloc (.cells #[.slice none 0 0, .int .i64 0] 28)) W → ∀ (j : Nat) u, (ms.flatMap mtC)[j]? = some u → W.cell? (ad.add j) = some u) := ⟨fun W hW => ((HS.out.grow HB1.out).grow hW).1.news⟩
  have HBS := Av.mk (HS.out.grow HB1.out)
  have HBB := Av.mk (HBR.out.grow HB1.out)
  have hml := mtC_len ms
  generalize (w.alloc (.cells #[.slice (some ad) ms.length c, .int .i64 (next : Int)] 28)).alloc (.cells #[.slice none 0 0, .int .i64 0] 28) = w1 at *
  have hgb := X1.out.lt
  generalize hg : w.heap.size = g at *
  have HG := Av.mk hg
  obtain ⟨n, hn0⟩ : ∃ n, ms.length = n := ⟨_, rfl⟩
  rw [hn0] at X1 hn hml ⊢
  have HN := Av.mk hn0
  have x0 := X1.out.cell 0
  have x1 := X1.out.cell 1
  have lx := X1.out.lt
  simp at x0 x1
  clear hg hn0
  go_region_held_law (fun W => W.cell? ⟨g, 0, none⟩ = some (.slice (some ad) n c) ∧ W.cell? ⟨g, 1, none⟩ = some (.int .i64 (next : Int))) (first | (exact ⟨by assumption, by assumption⟩) | go_keep)
    ((refine step_app rfl _ _ 26 rfl w1.heap.size 85 i85 _ 2 16 Tryd.underlying26 I85.out.1 I85.out.2.1 I85.out.2.2.1 I85.out.2.2.2 (by rfl) (by decide) (.slice (some ⟨w1.heap.size, 0, none⟩) 1 1) 1 [.int .i64 (next : Int), .pointer (some ⟨b, 0, none⟩)] rfl (own_new w1.drew 85 2 _ rfl) ad n c (ms.flatMap mtC) rfl hml (HS1.out _ (bel_alloc_drew' w1 _)) (mtC_one ms) (by unfold maxLen; omega) (by omega) (by simp) ?_
      intro A2 c2 w2 ho2 hg2 hd2
      have HO2 := Av.mk ho2
      have HG2 := Av.mk hg2
      have X2 := Av.mk ((X1.out.drew.alloc (.cells #[.int .i64 (next : Int), .pointer (some ⟨b, 0, none⟩)] 85)).grown hg2 (by simp [Value.ownBlock]; omega))
      have Y2 := Av.mk ((Y1.out.drew.alloc (.cells #[.int .i64 (next : Int), .pointer (some ⟨b, 0, none⟩)] 85)).grown hg2 (by have := Y1.out.lt; simp [Value.ownBlock]; omega))
      have x0' := X2.out.cell 0
      have x1' := X2.out.cell 1
      have lx' := X2.out.lt
      have y0 := Y2.out.cell 0
      have y1 := Y2.out.cell 1
      have f0 := Y2.out.frozen 0
      have f1 := Y2.out.frozen 1
      have ly := Y2.out.lt
      simp at x0' x1' y0 y1
      clear ho2 hg2 hd2))
  have hw : Value.int .i64 (IntKind.i64.wrap ((next : Int) + 1)) = .int .i64 ((next + 1 : Nat) : Int) := wrap_next next hnx
  have Y3 : Av (Blk ((w2.setCell ⟨g + 1, 0, none⟩ (.slice A2 (1 + n) c2)).setCell ⟨g + 1, 1, none⟩ (.int .i64 (IntKind.i64.wrap ((next : Int) + 1)))) (g + 1) 28 #[.slice A2 (1 + n) c2, .int .i64 (IntKind.i64.wrap ((next : Int) + 1))]) := ⟨by
    have := (Y2.out.set_ 0 (.slice A2 (1 + n) c2)).set_ 1 (.int .i64 (IntKind.i64.wrap ((next : Int) + 1)))
    simpa using this⟩
  have hk3 : Keep (fun k => k = g + 1) w2 ((w2.setCell ⟨g + 1, 0, none⟩ (.slice A2 (1 + n) c2)).setCell ⟨g + 1, 1, none⟩ (.int .i64 (IntKind.i64.wrap ((next : Int) + 1)))) :=
    ((Keep.refl (fun k => k = g + 1) w2).setCell (p := ⟨g + 1, 0, none⟩) (fun _ => rfl) _).setCell (p := ⟨g + 1, 1, none⟩) (fun _ => rfl) _
  have hb2 : Below w1.heap.size w1 w2 := ((below_drewN (Below.refl _ w1) 1).alloc (Nat.le_refl w1.heap.size) (.cells #[.int .i64 (next : Int), .pointer (some ⟨b, 0, none⟩)] 85)).grown HG2.out (by simp) (fun k hk => by simp [Value.ownBlock] at hk; omega)
  have HB2 := Av.mk hb2
  have HK3 := Av.mk hk3
  have HW := Av.mk hw
  clear hb2 hk3 hw x0 x1 lx x0' x1' y0 y1 f0 f1
  generalize (w2.setCell ⟨g + 1, 0, none⟩ (.slice A2 (1 + n) c2)).setCell ⟨g + 1, 1, none⟩ (.int .i64 (IntKind.i64.wrap ((next : Int) + 1))) = w3 at *
  have e0 := Y3.out.cell 0
  have e1 := Y3.out.cell 1
  simp at e0 e1
  go_wp2_with fail
  refine bodyPost_ret (v := .tuple #[.agg #[.slice A2 (1 + n) c2, .int .i64 (IntKind.i64.wrap ((next : Int) + 1))], .int .i64 next, .int .i64 0]) (by simp [results, Tryd.results72, go_sem, e0, e1]) rfl ?_
  have hne : g + 1 < w1.heap.size := Y1.out.lt
  have hB3 : Bel w w3 := by
    have h1 : Below w.heap.size w w2 := below_then HB1.out (Below.size HB1.out) HB2.out
    exact h1.trans (HK3.out.below (by have := h1.size; omega) (fun k h => by have := HG.out; omega))
  have hl : (⟨next, b, xs⟩ :: ms : List Mt).length = 1 + n := by rw [List.length_cons, HN.out]; omega
  have hkB : ∀ (x : Nat) (ys : List Ino), BrAt w x ys → BrAt w3 x ys := fun x ys h => h.grow hB3
  refine ⟨A2, c2, by rw [hl, HW.out], ⟨?_, fun m hm => ?_⟩, hB3⟩
  · rw [hl]
    have h2 : Sl (IsT w2 85) w2 2 (.slice A2 (1 + n) c2) (1 + n) ((⟨next, b, xs⟩ :: ms : List Mt).flatMap mtC) := Sl.of_row HO2.out (fun k hk => row_isT HO2.out k hk)
    exact h2.keepT HK3.out (fun k hk e => by rw [e] at hk; exact absurd (hk.one Y2.out.isT) (by decide))
  · rcases List.mem_cons.1 hm with rfl | hm
    · exact hkB _ _ HBR.out
    · exact hkB _ _ (HS.out.2 m hm)
end Go.Proofs.YtkmojgdjapfbbaaDoor
namespace Go.Proofs.YtkmojgdjapfbbaaDoor
open Go.RowKit Go.Maps
set_option linter.unusedSimpArgs false
set_option linter.unusedVariables false

set_option maxRecDepth 100000 in
set_option maxHeartbeats 4000000 in
theorem sadd_nil {w : World} (next b : Nat) (xs : List Ino) (hb : BrAt w b xs) (hnx : next ≤ 1000) :
    Calls Tryd.prog 72 #[.agg #[.slice none 0 0, .int .i64 (next : Int)], .pointer (some ⟨b, 0, none⟩)] w (AddStP next [⟨next, b, xs⟩] w) := by
  obtain ⟨i85, hi85⟩ := info85
  have I85 := Av.mk hi85
  have HBR := Av.mk hb
  clear hi85 hb
  have X0 := Av.mk (Blk.new w 28 #[.slice none 0 0, .int .i64 (next : Int)])
  have hba := below_alloc (below_alloc (Below.refl _ w) (.cells #[.slice none 0 0, .int .i64 (next : Int)] 28)) (.cells #[.slice none 0 0, .int .i64 0] 28)
  have X1 := Av.mk (X0.out.alloc (.cells #[.slice none 0 0, .int .i64 0] 28))
  have Y1 := Av.mk (Blk.new (w.alloc (.cells #[.slice none 0 0, .int .i64 (next : Int)] 28)) 28 #[.slice none 0 0, .int .i64 0])
  have hz : (w.alloc (.cells #[.slice none 0 0, .int .i64 (next : Int)] 28)).heap.size = w.heap.size + 1 := by simp
  rw [hz] at Y1
  have HB1 : Av (Bel w ((w.alloc (.cells #[.slice none 0 0, .int .i64 (next : Int)] 28)).alloc (.cells #[.slice none 0 0, .int .i64 0] 28))) := ⟨hba⟩
  clear hba hz X0
  go_enter Tryd.func72, Tryd.ntmps72
  go_upto_region 3 with (fail)
  generalize (w.alloc (.cells #[.slice none 0 0, .int .i64 (next : Int)] 28)).alloc (.cells #[.slice none 0 0, .int .i64 0] 28) = w1 at *
  have hgb := X1.out.lt
  generalize hg : w.heap.size = g at *
  have HG := Av.mk hg
  have x0 := X1.out.cell 0
  have x1 := X1.out.cell 1
  have lx := X1.out.lt
  have y0 := Y1.out.cell 0
  have y1 := Y1.out.cell 1
  have f0 := Y1.out.frozen 0
  have f1 := Y1.out.frozen 1
  have ly := Y1.out.lt
  simp at x0 x1 y0 y1
  clear hg
  go_region_held (fun W => W.cell? ⟨g, 0, none⟩ = some (.slice none 0 0) ∧ W.cell? ⟨g, 1, none⟩ = some (.int .i64 (next : Int))) (first | (exact ⟨by assumption, by assumption⟩) | go_keep) (fail)
  have HW := Av.mk (wrap_next next hnx)
  obtain ⟨ws, hws⟩ : ∃ ws, (w1.setCell ⟨g + 1, 0, none⟩ (.slice (some ⟨w1.heap.size, 0, none⟩) 1 1)).setCell ⟨g + 1, 1, none⟩ (.int .i64 (IntKind.i64.wrap ((next : Int) + 1))) = ws := ⟨_, rfl⟩
  have Ys : Av (Blk ws (g + 1) 28 #[.slice (some ⟨w1.heap.size, 0, none⟩) 1 1, .int .i64 (IntKind.i64.wrap ((next : Int) + 1))]) := ⟨by
    rw [← hws]
    have := (Y1.out.set_ 0 (.slice (some ⟨w1.heap.size, 0, none⟩) 1 1)).set_ 1 (.int .i64 (IntKind.i64.wrap ((next : Int) + 1)))
    simpa using this⟩
  have hks : Keep (fun k => k = g + 1) w1 ws := by
    rw [← hws]
    exact ((Keep.refl (fun k => k = g + 1) w1).setCell (p := ⟨g + 1, 0, none⟩) (fun _ => rfl) _).setCell (p := ⟨g + 1, 1, none⟩) (fun _ => rfl) _
  have hsz : ws.heap.size = w1.heap.size := by rw [← hws]; simp [World.setCell]
  rw [hws]
  have Z3 := Av.mk (Blk.new ws 85 #[.int .i64 (next : Int), .pointer (some ⟨b, 0, none⟩)])
  rw [hsz] at Z3
  have Y3 := Av.mk ((Ys.out.alloc (.cells #[.int .i64 (next : Int), .pointer (some ⟨b, 0, none⟩)] 85)).drew)
  have HK3 := Av.mk ((hks.alloc (.cells #[.int .i64 (next : Int), .pointer (some ⟨b, 0, none⟩)] 85)).drew)
  have hlt1 : g + 1 < w1.heap.size := Y1.out.lt
  clear x0 x1 lx y0 y1 f0 f1 ly hks hws
  generalize hm : w1.heap.size = m at *
  have Z4 : Av (Blk ((ws.alloc (.cells #[.int .i64 (next : Int), .pointer (some ⟨b, 0, none⟩)] 85)).drew) m 85 #[.int .i64 (next : Int), .pointer (some ⟨b, 0, none⟩)]) := ⟨Z3.out.drew⟩
  have HM := Av.mk hm
  clear hm hsz Z3
  generalize (ws.alloc (.cells #[.int .i64 (next : Int), .pointer (some ⟨b, 0, none⟩)] 85)).drew = w3 at *
  have e0 := Y3.out.cell 0
  have e1 := Y3.out.cell 1
  simp at e0 e1
  go_wp2_with fail
  refine bodyPost_ret (v := .tuple #[.agg #[.slice (some ⟨m, 0, none⟩) 1 1, .int .i64 (IntKind.i64.wrap ((next : Int) + 1))], .int .i64 next, .int .i64 0]) (by simp [results, Tryd.results72, go_sem, e0, e1]) rfl ?_
  have hB3 : Bel w w3 := by
    have h1 : Below w.heap.size w w1 := HB1.out
    exact h1.trans (HK3.out.below (by have := HM.out; have := HG.out; omega) (fun k h => by have := HG.out; omega))
  refine ⟨some ⟨m, 0, none⟩, 1, by rw [HW.out]; rfl, ⟨⟨rfl, .inr ⟨m, 0, 1, rfl, Nat.le_refl _, Z4.out.isT, Z4.out.lt, fun i hi => ?_⟩⟩, fun x hx => ?_⟩, hB3⟩
  · rw [Nat.zero_add, Z4.out.cell i]
    match i with
    | 0 => rfl
    | 1 => rfl
    | i + 2 => simp at hi; omega
  · obtain rfl : x = ⟨next, b, xs⟩ := by simpa using hx
    exact HBR.out.grow hB3
end Go.Proofs.YtkmojgdjapfbbaaDoor
namespace Go.Proofs.YtkmojgdjapfbbaaDoor
open Go.RowKit Go.Maps
set_option linter.unusedSimpArgs false
set_option linter.unusedVariables false

/-- Trees, the uppermost one first, with their numbers. -/
def stk (l : List T) : List (Nat × List Ino) := ((List.range l.length).zip (l.map (T.rows 0))).reverse
theorem stk_snoc (l : List T) (t : T) : stk (l ++ [t]) = (l.length, t.rows 0) :: stk l := by
  unfold stk
  rw [List.length_append, List.length_singleton, List.range_succ, List.map_append, List.zip_append (by simp)]
  simp
theorem stk_take {l : List T} {j : Nat} {u : T} (h : l[j]? = some u) : stk (l.take (j + 1)) = (j, u.rows 0) :: stk (l.take j) := by
  have hj := (List.getElem?_eq_some_iff.1 h).1
  rw [List.take_add_one, h, Option.toList_some, stk_snoc, List.length_take, Nat.min_eq_left (by omega)]
theorem stk_len (l : List T) : (stk l).length = l.length := by simp [stk]
/-- A tree of which a branch may be made. -/
structure Good (t : T) : Prop where
  right : t.right = true
  fit : Fit PnC PtC t
  wt : t.wt ≤ 1000000
def mtKey (m : Mt) : Nat × List Ino := (m.id, m.xs)
def StOfP (l : List T) (w : World) (e : Ending) (w' : World) : Prop :=
  ∃ A c ms, e = .returned (.tuple #[.agg #[.slice A ms.length c, .int .i64 (l.length : Int)], .int .i64 0]) ∧ StAt w' A c ms ∧ ms.map mtKey = stk l ∧ Bel w w'
theorem add_any {w : World} {A : Option Addr} {c : Nat} {ms : List Mt} (h : StAt w A c ms) (h0 : ms = [] → A = none ∧ c = 0) (next b : Nat) (xs : List Ino) (hb : BrAt w b xs) (hn : ms.length < 64) (hnx : next ≤ 1000) :
    Calls Tryd.prog 72 #[.agg #[.slice A ms.length c, .int .i64 (next : Int)], .pointer (some ⟨b, 0, none⟩)] w (AddStP next (⟨next, b, xs⟩ :: ms) w) := by
  cases ms with
  | nil =>
    obtain ⟨rfl, rfl⟩ := h0 rfl
    exact sadd_nil next b xs hb hnx
  | cons m ms =>
    obtain ⟨r, off, rfl, _⟩ := h.1.at (by simp)
    exact sadd_calls h next b xs hb hn hnx
set_option maxRecDepth 100000 in
set_option maxHeartbeats 4000000 in
theorem of_calls {B : Nat → Prop} {w : World} {A : Option Addr} {c : Nat} {l : List T} (h : RepL B w (.slice A l.length c) l) (hB : ∀ k, B k → k < w.heap.size) (hl : l.length ≤ 60) (hg : ∀ t ∈ l, Good t) : Calls Tryd.prog 37 #[.slice A l.length c] w (StOfP l w) := by
  have HG := Av.mk hg
  have HBB := Av.mk hB
  have hba := below_alloc (below_alloc (Below.refl _ w) (.cells #[.slice none 0 0, .int .i64 0] 28)) (.cells #[.slice none 0 0, .int .i64 0] 28)
  have HI := Av.mk (h.grow hba)
  have HB1 : Av (Bel w ((w.alloc (.cells #[.slice none 0 0, .int .i64 0] 28)).alloc (.cells #[.slice none 0 0, .int .i64 0] 28))) := ⟨hba⟩
  have Y1 := Av.mk ((Blk.new w 28 #[.slice none 0 0, .int .i64 0]).alloc (.cells #[.slice none 0 0, .int .i64 0] 28))
  have S1 := Av.mk (Blk.new (w.alloc (.cells #[.slice none 0 0, .int .i64 0] 28)) 28 #[.slice none 0 0, .int .i64 0])
  have hz : (w.alloc (.cells #[.slice none 0 0, .int .i64 0] 28)).heap.size = w.heap.size + 1 := by simp
  rw [hz] at S1
  clear h hB hg hba hz
  go_enter Tryd.func37, Tryd.ntmps37
  go_upto_region 2 with (fail)
  generalize (w.alloc (.cells #[.slice none 0 0, .int .i64 0] 28)).alloc (.cells #[.slice none 0 0, .int .i64 0] 28) = w1 at *
  generalize hgg : w.heap.size = g at *
  have HGG := Av.mk hgg
  clear hgg
  go_wp2_with fail
  go_loopw [11] (fun s11 wr => ∃ (j : Nat) (A2 : Option Addr) (c2 : Nat) (ms : List Mt), j ≤ l.length ∧ s11 = .int .i64 j ∧ Blk wr (g + 1) 28 #[.slice A2 ms.length c2, .int .i64 (j : Int)] ∧ StAt wr A2 c2 ms ∧ Keep (fun k => k = g + 1) w1 wr ∧ Av (ms.map mtKey = stk (l.take j) ∧ (ms = [] → A2 = none ∧ c2 = 0))) (fun s11 _ => l.length - (intOf s11).toNat)
  case atStart => exact ⟨0, none, 0, [], Nat.zero_le _, rfl, S1.out, ⟨Sl.nil _ _ _ _ _, fun m hm => by cases hm⟩, Keep.refl _ _, ⟨rfl, fun _ => ⟨rfl, rfl⟩⟩⟩
  case round =>
    obtain ⟨j, A2, c2, ms, hj, rfl, hs, hst, hk, HM⟩ := hrel
    have SJ := Av.mk hs
    have TJ := Av.mk hst
    have KJ := Av.mk hk
    clear hs hst hk
    have hml : ms.length = j := by
      have h1 := congrArg List.length HM.out.1
      rw [List.length_map, stk_len, List.length_take] at h1
      omega
    have HIJ := Av.mk (HI.out.keep KJ.out (fun k hk e => by have := HBB.out k hk; have := HGG.out; omega))
    by_cases hlt : j < l.length
    · obtain ⟨u, hu⟩ : ∃ u, l[j]? = some u := ⟨_, List.getElem?_eq_getElem hlt⟩
      obtain ⟨b, off, q, rfl, hBb, hbl, hcp, d0, d1, d2, d3, d4, d5, d6, hq⟩ := HIJ.out.elem hu
      obtain ⟨Bn, dn, Bi, di, Be, de, rfl⟩ := hq.parts
      have HU := Av.mk (HG.out u (List.mem_of_getElem? hu))
      have HST := Av.mk (stk_take hu)
      have HQ := Av.mk hq
      clear hq hu
      have HNW : Av (∀ W, Bel wr W → Calls Tryd.prog 54 #[nodeV ⟨.slice Bn u.names.length dn, .slice Bi u.items.length di, .slice Be u.exts.length de⟩ u] W (NewP (u.rows 0) W)) := ⟨fun W hW => New_calls (HQ.out.grow hW) (fun k hk => by have h1 := HBB.out k hk; have h2 := Below.size hW; have h3 := KJ.out.size; have h4 := Below.size HB1.out; have h5 := HGG.out; omega) HU.out.fit HU.out.right HU.out.wt⟩
      generalize T.rows 0 u = xs at *
      obtain ⟨uk, uo, uns, uits, usz, uex, utg⟩ := u
      simp only [T.kind, T.opq, T.names, T.items, T.size, T.exts, T.target] at d0 d1 d2 d3 d4 d5 d6
      clear HQ
      go_upto_region 5 with (fail)
      have hba := below_alloc (Below.refl _ wr) (.cells #[.int .i64 uk, .bool uo, .slice Bn uns.length dn, .slice Bi uits.length di, .int .i64 usz, .slice Be uex.length de, .string utg] 33)
      have Z2 := Av.mk (Blk.new wr 33 #[.int .i64 uk, .bool uo, .slice Bn uns.length dn, .slice Bi uits.length di, .int .i64 usz, .slice Be uex.length de, .string utg])
      have HBW : Av (Bel wr (wr.alloc (.cells #[.int .i64 uk, .bool uo, .slice Bn uns.length dn, .slice Bi uits.length di, .int .i64 usz, .slice Be uex.length de, .string utg] 33))) := ⟨hba⟩
      clear hba d0 d1 d2 d3 d4 d5 d6
      generalize wr.alloc (.cells #[.int .i64 uk, .bool uo, .slice Bn uns.length dn, .slice Bi uits.length di, .int .i64 usz, .slice Be uex.length de, .string utg] 33) = w2 at *
      generalize wr.heap.size = gz at *
      have z0 := Z2.out.cell 0; have z1 := Z2.out.cell 1; have z2 := Z2.out.cell 2; have z3 := Z2.out.cell 3; have z4 := Z2.out.cell 4; have z5 := Z2.out.cell 5; have z6 := Z2.out.cell 6
      have lz := Z2.out.lt
      simp at z0 z1 z2 z3 z4 z5 z6
      go_wp2_with fail
      refine (HNW.out _ HBW.out).mono ?_
      rintro e w3 ⟨bb, rfl, hbr, hb3⟩
      have HBR := Av.mk hbr
      have HB3 : Av (Bel wr w3) := ⟨below_then HBW.out (Below.size HBW.out) hb3⟩
      have S3 := Av.mk (SJ.out.keep (Keep.of_below (S := fun _ => False) HB3.out) (by simp))
      have T3 := Av.mk (TJ.out.grow HB3.out)
      clear hbr hb3 z0 z1 z2 z3 z4 z5 z6 lz
      have HAD := Av.mk (add_any T3.out HM.out.2 j bb xs HBR.out (by omega) (by omega))
      have HML := Av.mk hml
      generalize ms.length = n at *
      have s0 := S3.out.cell 0
      have s1 := S3.out.cell 1
      have ls := S3.out.lt
      simp at s0 s1
      clear hml
      go_wp2_with fail
      refine HAD.out.mono ?_
      rintro e w4 ⟨A4, c4, rfl, hst4, hb4⟩
      have HB4 := Av.mk hb4
      have T4 := Av.mk hst4
      have S4 := Av.mk (S3.out.keep (Keep.of_below (S := fun _ => False) hb4) (by simp))
      clear hst4 hb4 s0 s1 ls
      have ls4 := S4.out.lt
      go_wp2_with (first | (refine wpList_putB rfl 28 (.tmp 4) (.tmp 28) rfl (g + 1) 28 _ _ rfl rfl (by kernel_rfl) S4.out rfl (by simp [Value.oneCell']) ?_; intro w5 hb5 hk5; have HB5 := Av.mk hb5; have HK5 := Av.mk hk5; clear hb5 hk5))
      have K5 : Keep (fun k => k = g + 1) w1 w5 := ((KJ.out.trans (Keep.of_below HB3.out)).trans (Keep.of_below HB4.out)).trans HK5.out
      have T5 := T4.out.keep (e := 28) HK5.out (by decide) (by decide) (by decide) (by decide) (by decide) (fun k hk => by rw [hk]; exact S4.out.isT)
      have hm5 : (⟨j, bb, xs⟩ :: ms : List Mt).map mtKey = stk (l.take (j + 1)) := by
        rw [List.map_cons, HM.out.1, HST.out]; rfl
      refine ⟨⟨j + 1, A4, c4, ⟨j, bb, xs⟩ :: ms, by omega, by go_num, ?_, T5, K5, ⟨hm5, fun h => by cases h⟩⟩, by simp [intOf]; omega⟩
      exact HB5.out
    · obtain rfl : j = l.length := by omega
      have s0 := SJ.out.cell 0
      have s1 := SJ.out.cell 1
      have ls := SJ.out.lt
      have hgne : g ≠ g + 1 := by omega
      have YJ := Av.mk (Y1.out.keep KJ.out hgne)
      have ly := YJ.out.lt
      simp at s0 s1
      have HML := Av.mk hml
      clear hml
      generalize hnn : ms.length = n at *
      have HNN := Av.mk hnn
      clear hnn
      go_wp2_with (first | (refine wpList_putB rfl 28 (.tmp 2) (.tmp 36) rfl g 28 _ _ rfl rfl (by kernel_rfl) YJ.out rfl (by simp [Value.oneCell']) ?_; intro w5 hb5 hk5; have HB5 := Av.mk hb5; have HK5 := Av.mk hk5; clear hb5 hk5))
      have e0 := HB5.out.cell 0
      have e1 := HB5.out.cell 1
      simp at e0 e1
      refine bodyPost_ret (v := .tuple #[.agg #[.slice A2 n c2, .int .i64 (l.length : Int)], .int .i64 0]) (by simp [results, Tryd.results37, go_sem, e0, e1]) rfl ?_
      have hm := HM.out.1
      rw [List.take_length] at hm
      have T5 := TJ.out.keep (e := 28) HK5.out (by decide) (by decide) (by decide) (by decide) (by decide) (fun k hk => by rw [hk]; exact YJ.out.isT)
      have hBel : Bel w w5 := by
        have h1 : Below w.heap.size w w1 := HB1.out
        have hz := HGG.out
        have h2 := Y1.out.lt
        exact (h1.trans (KJ.out.below (by have := h1.size; omega) (fun k h => by omega))).trans (HK5.out.below (by have := h1.size; have := KJ.out.size; omega) (fun k h => by omega))
      exact ⟨A2, c2, ms, by rw [HNN.out], T5, hm, hBel⟩
end Go.Proofs.YtkmojgdjapfbbaaDoor
namespace Go.Proofs.YtkmojgdjapfbbaaDoor
open Go.RowKit Go.Maps
set_option linter.unusedSimpArgs false
set_option linter.unusedVariables false

theorem setCells_blk {t : TypeId} {r : Nat} : ∀ (vs : List Value) (o : Nat) (w : World) (cur : Array Value), Blk w r t cur → ∃ cur', Blk (w.setCells r o vs) r t cur' ∧ cur'.size = cur.size
  | [], o, w, cur, h => ⟨cur, h, rfl⟩
  | v :: vs, o, w, cur, h => by
    obtain ⟨cur', h1, h2⟩ := setCells_blk vs (o + 1) _ _ (h.set_ o v)
    exact ⟨cur', h1, by rw [h2]; simp⟩
theorem setCells_keep {r : Nat} : ∀ (vs : List Value) (o : Nat) (w : World), Keep (fun k => k = r) w (w.setCells r o vs)
  | [], o, w => Keep.refl _ _
  | v :: vs, o, w => ((Keep.refl (fun k => k = r) w).setCell (p := ⟨r, o, none⟩) (fun _ => rfl) v).trans (setCells_keep vs (o + 1) _)
/-- 'clear' of one mount. -/
theorem wpList_clear85 {w : World} {ops : Array Oper} {rest : List Oper} {o : Oper} {a : Act} {Q : Exit → Act → World → Prop} (hgd : o.guard = none) (x : Operand)
    (ho : o.op = .call { callee := .builtin .clear, args := #[x], argTypes := #[26] }) (g off c : Nat) (hx : a.eval x = .slice (some ⟨g, off, none⟩) 1 c) (cur : Array Value) (hb : Blk w g 85 cur) (hfit : off + 2 ≤ cur.size)
    (h : ∀ w', Blk w' g 85 (cur.toList.take off ++ [Value.int .i64 0, Value.pointer none] ++ cur.toList.drop (off + 2)).toArray → Keep (fun k => k = g) w w' → wpList Tryd.prog ops Q rest (a.put o.dst (.tuple #[])) w') : wpList Tryd.prog ops Q (o :: rest) a w := by
  refine wpList_plain hgd fun K hK => ?_
  have hst := run_storeCells_at Tryd.prog g off 85 [Value.int .i64 0, Value.pointer none] 0 cur w hb (by simpa using hfit) (by simp [Value.oneCell'])
  simp only [Nat.add_zero] at hst
  have hz : (zeroValue 85).run Tryd.prog w = .ok (.agg #[Value.int .i64 0, Value.pointer none]) w := by kernel_rfl
  have hzc : (Builtin.zeroCells (Value.agg #[Value.int .i64 0, Value.pointer none]).cells 1).toList = [Value.int .i64 0, Value.pointer none] := by
    apply List.ext_getElem
    · simp [Builtin.zeroCells, Value.cells]
    · intro i h1 h2
      have h3 : i = 0 ∨ i = 1 := by simp at h2; omega
      rcases h3 with rfl | rfl <;> simp [Builtin.zeroCells, Value.cells]
  have hrun : (Builtin.clear_ #[26] o.type #[.slice (some ⟨g, off, none⟩) 1 c]).run Tryd.prog w = .ok (.tuple #[]) (w.setRow g (cur.toList.take off ++ [Value.int .i64 0, Value.pointer none] ++ cur.toList.drop (off + 2)).toArray) := by
    simp [Builtin.clear_, run_underlying Tryd.underlying26, hz, hzc, hst]
  unfold Oper.wp execOp
  simp only [ho, resolve, invoke, builtin, Sem.run_bind, Sem.run_pure, Result.andThen_ok, List.map_toArray, List.map_cons, List.map_nil, hx, hrun]
  exact hK _ _ (h _ (setRow_heap w g cur _ 85 _ hb) (setRow_keep w g _))
def DelP (r k cap : Nat) (cs : List Value) (w : World) (e : Ending) (w' : World) : Prop :=
  e = .returned (.slice (some ⟨r, 0, none⟩) k cap) ∧ (∃ cur, Blk w' r 85 cur) ∧ (∀ i, i < k * 2 → w'.cell? ⟨r, i, none⟩ = cs[i]?) ∧ Keep (fun k => k = r) w w'
set_option maxRecDepth 100000 in
set_option maxHeartbeats 4000000 in
theorem delete_calls {w : World} {r k cap : Nat} {cur : Array Value} (hb : Blk w r 85 cur) (hcur : cur.size = cap * 2) (hk : k + 1 ≤ cap) (hk9 : k ≤ 100) (cs : List Value) (hcs : cs.length = k * 2) (hone : ∀ v ∈ cs, v.oneCell' = true)
    (hc : ∀ i, i < k * 2 → w.cell? ⟨r, 2 + i, none⟩ = cs[i]?) :
    Calls Tryd.prog 42 #[.slice (some ⟨r, 0, none⟩) (k + 1) cap, .int .i64 0, .int .i64 1] w (DelP r k cap cs w) := by
  obtain ⟨i85, hi85⟩ := info85
  have I85 := Av.mk hi85
  have HB := Av.mk hb
  have HONE := Av.mk hone
  have HC : Av (∀ n, ∀ (j : Nat) u, cs[j]? = some u → (w.drewN n).cell? ((⟨r, 2, none⟩ : Addr).add j) = some u) := ⟨fun n j u hj => by
    have hjl := (List.getElem?_eq_some_iff.1 hj).1
    rw [Addr.add_lit]
    exact (hc j (by omega)).trans hj⟩
  have HSP : Av (∀ n, ∀ j, j < cs.length → ((w.drewN n).cell? ⟨r, 0 + 0 * 2 + j, none⟩).isSome = true ∧ (w.drewN n).frozen? ⟨r, 0 + 0 * 2 + j, none⟩ = false) := ⟨fun n j hj => by
    have h1 := (hb.drewN n).cell (0 + 0 * 2 + j)
    refine ⟨?_, (hb.drewN n).frozen _⟩
    rw [h1, Array.getElem?_eq_getElem (by omega)]
    rfl⟩
  clear hi85 hone hc hb
  go_enter Tryd.func42, Tryd.ntmps42
  go_upto_region 5 with (fail)
  by_cases hc1 : cap = 1
  · subst hc1
    obtain rfl : k = 0 := by omega
    obtain rfl : cs = [] := List.eq_nil_of_length_eq_zero (by omega)
    go_region_law (refine step_append_room rfl _ _ 26 rfl 85 i85 2 Tryd.underlying26 I85.out.1 I85.out.2.2.1 r 0 0 1 rfl ⟨r, 0, none⟩ 0 0 ([] : List Value) rfl rfl (by simp) (by simp) (by omega) (HSP.out 1) ?_)
    obtain ⟨cur2, hb2, hs2⟩ := setCells_blk ([] : List Value) 0 w.drew cur HB.out.drew
    have hk2 := setCells_keep (r := r) ([] : List Value) 0 w.drew
    have HCE : Av (∀ i, i < 0 * 2 → (w.drew.setCells r 0 ([] : List Value)).cell? ⟨r, i, none⟩ = ([] : List Value)[i]?) := ⟨fun i hi => by
      have h1 := World.cell?_setCells_in r ([] : List Value) 0 w.drew (fun j hj => by have := (HSP.out 1 j hj).1; simpa using this) i (by omega)
      rw [Nat.zero_add] at h1
      rw [List.getElem?_eq_getElem (by omega)]
      exact h1⟩
    have HB2 := Av.mk hb2
    have HK2 : Av (Keep (fun k => k = r) w (w.drew.setCells r 0 ([] : List Value))) := ⟨((Keep.refl (fun k => k = r) w).drew).trans hk2⟩
    clear hb2 hk2
    generalize w.drew.setCells r 0 ([] : List Value) = w2 at *
    go_wp2_with (first | (with_reducible show wpList _ _ _ _ _ _; refine wpList_clear85 rfl (.tmp 31) rfl r (0) _ rfl cur2 HB2.out (by omega) ?_; intro w3 hb3 hk3; have HB3 := Av.mk hb3; have HK3 := Av.mk hk3; clear hb3 hk3))
    go_ret
    refine ⟨rfl, ⟨_, HB3.out⟩, fun i hi => ?_, HK2.out.trans HK3.out⟩
    have h1 := HB3.out.cell i
    have h2 := HB2.out.cell i
    have h4 := HCE.out i hi
    rw [h1, ← h4, h2]
    rw [← Array.getElem?_toList, ← Array.getElem?_toList]
    simp only [List.append_assoc]
    rw [List.getElem?_append_left (by simp; omega), List.getElem?_take_of_lt (by omega)]
  · by_cases hk0 : k = 0
    · subst hk0
      obtain rfl : cs = [] := List.eq_nil_of_length_eq_zero (by omega)
      go_region_law (refine step_append_room rfl _ _ 26 rfl 85 i85 2 Tryd.underlying26 I85.out.1 I85.out.2.2.1 r 0 0 cap rfl ⟨r, 2, none⟩ 0 (cap - 1) ([] : List Value) rfl rfl (by simp) (by simp) (by omega) (HSP.out 1) ?_)
      obtain ⟨cur2, hb2, hs2⟩ := setCells_blk ([] : List Value) 0 w.drew cur HB.out.drew
      have hk2 := setCells_keep (r := r) ([] : List Value) 0 w.drew
      have HCE : Av (∀ i, i < 0 * 2 → (w.drew.setCells r 0 ([] : List Value)).cell? ⟨r, i, none⟩ = ([] : List Value)[i]?) := ⟨fun i hi => by
        have h1 := World.cell?_setCells_in r ([] : List Value) 0 w.drew (fun j hj => by have := (HSP.out 1 j hj).1; simpa using this) i (by omega)
        rw [Nat.zero_add] at h1
        rw [List.getElem?_eq_getElem (by omega)]
        exact h1⟩
      have HB2 := Av.mk hb2
      have HK2 : Av (Keep (fun k => k = r) w (w.drew.setCells r 0 ([] : List Value))) := ⟨((Keep.refl (fun k => k = r) w).drew).trans hk2⟩
      clear hb2 hk2
      generalize w.drew.setCells r 0 ([] : List Value) = w2 at *
      go_wp2_with (first | (with_reducible show wpList _ _ _ _ _ _; refine wpList_clear85 rfl (.tmp 31) rfl r (0) _ rfl cur2 HB2.out (by omega) ?_; intro w3 hb3 hk3; have HB3 := Av.mk hb3; have HK3 := Av.mk hk3; clear hb3 hk3))
      go_ret
      refine ⟨rfl, ⟨_, HB3.out⟩, fun i hi => ?_, HK2.out.trans HK3.out⟩
      have h1 := HB3.out.cell i
      have h2 := HB2.out.cell i
      have h4 := HCE.out i hi
      rw [h1, ← h4, h2]
      rw [← Array.getElem?_toList, ← Array.getElem?_toList]
      simp only [List.append_assoc]
      rw [List.getElem?_append_left (by simp; omega), List.getElem?_take_of_lt (by omega)]
    · have hck : ¬ cap = k := by omega
      have hq : ((1 : Int) ≤ (k : Int) + 1) = True := eq_true (by omega)
      go_region_law (refine step_append_room rfl _ _ 26 rfl 85 i85 2 Tryd.underlying26 I85.out.1 I85.out.2.2.1 r 0 0 cap rfl ⟨r, 2, none⟩ k (cap - 1) cs rfl hcs (HC.out 1) HONE.out (by omega) (HSP.out 1) ?_)
      obtain ⟨cur2, hb2, hs2⟩ := setCells_blk cs 0 w.drew cur HB.out.drew
      have hk2 := setCells_keep (r := r) cs 0 w.drew
      have HCE : Av (∀ i, i < k * 2 → (w.drew.setCells r 0 cs).cell? ⟨r, i, none⟩ = cs[i]?) := ⟨fun i hi => by
        have h1 := World.cell?_setCells_in r cs 0 w.drew (fun j hj => by have := (HSP.out 1 j hj).1; simpa using this) i (by omega)
        rw [Nat.zero_add] at h1
        rw [List.getElem?_eq_getElem (by omega)]
        exact h1⟩
      have HB2 := Av.mk hb2
      have HK2 : Av (Keep (fun k => k = r) w (w.drew.setCells r 0 cs)) := ⟨((Keep.refl (fun k => k = r) w).drew).trans hk2⟩
      clear hb2 hk2
      generalize w.drew.setCells r 0 cs = w2 at *
      go_wp2_with (first | (with_reducible show wpList _ _ _ _ _ _; refine wpList_clear85 rfl (.tmp 31) rfl r (k * 2) _ rfl cur2 HB2.out (by omega) ?_; intro w3 hb3 hk3; have HB3 := Av.mk hb3; have HK3 := Av.mk hk3; clear hb3 hk3))
      go_ret
      refine ⟨rfl, ⟨_, HB3.out⟩, fun i hi => ?_, HK2.out.trans HK3.out⟩
      have h1 := HB3.out.cell i
      have h2 := HB2.out.cell i
      have h4 := HCE.out i hi
      rw [h1, ← h4, h2]
      rw [← Array.getElem?_toList, ← Array.getElem?_toList]
      simp only [List.append_assoc]
      rw [List.getElem?_append_left (by simp; omega), List.getElem?_take_of_lt (by omega)]
end Go.Proofs.YtkmojgdjapfbbaaDoor
namespace Go.Proofs.YtkmojgdjapfbbaaDoor
open Go.RowKit Go.Maps
set_option linter.unusedSimpArgs false
set_option linter.unusedVariables false

theorem same_calls (id : Int) (b : Nat) (gi : Nat) (w : World) (hc : w.cell? ⟨gi, 0, none⟩ = some (.int .i64 id)) : Calls Tryd.prog 41 #[.agg #[.int .i64 id, .pointer (some ⟨b, 0, none⟩)], .pointer (some ⟨gi, 0, none⟩)] w (RetB (.bool true) w) := by
  have lt := World.block_lt_of_cell? w _ hc
  go_enter Tryd.func41, Tryd.ntmps41
  go_wp2_with fail
  go_ret
  exact ⟨rfl, below_alloc (Below.refl _ w) _⟩
set_option maxHeartbeats 1000000 in
theorem indexf_calls {w : World} {A : Option Addr} {c : Nat} {m : Mt} {ms : List Mt} (h : StAt w A c (m :: ms)) (gi : Nat) (hc : w.cell? ⟨gi, 0, none⟩ = some (.int .i64 (m.id : Int))) (hl : ms.length ≤ 100) :
    Calls Tryd.prog 40 #[.slice A (ms.length + 1) c, .func (.func 41) #[] #[.pointer (some ⟨gi, 0, none⟩)]] w (RetB (.int .i64 0) w) := by
  have hx : (m :: ms)[0]? = some m := rfl
  obtain ⟨r, off, rfl, _, hrl, hcc, -, hall⟩ := h.1.elem (f := mtC) (fun _ => rfl) (by omega) hx
  have d0 := hall 0 (by omega)
  have d1 := hall 1 (by omega)
  simp [mtC] at d0 d1
  have HS := Av.mk (same_calls (m.id : Int) m.b gi w hc)
  generalize ms.length = n at *
  clear hall hx h hc
  go_enter Tryd.func40, Tryd.ntmps40
  go_wp2_with fail
  go_loopw [8] (fun s8 wr => s8 = .int .i64 0 ∧ wr = w) (fun _ _ => 0)
  case atStart => exact ⟨rfl, rfl⟩
  case round =>
    obtain ⟨rfl, rfl⟩ := hrel
    go_wp2_with fail
    refine HS.out.mono ?_
    rintro e w1 ⟨rfl, hb⟩
    have HB := Av.mk hb
    clear hb
    go_wp2_with fail
    go_ret
    exact ⟨rfl, HB.out⟩
theorem CloneP.opened85 {k : Nat} {m : Mt} {ms : List Mt} {w : World} {e : Ending} {w' : World} (h : CloneP 85 2 (k + 1) ((m :: ms).flatMap mtC) w e w') (hk : ms.length = k) :
    ∃ r cap cur, e = .returned (.slice (some ⟨r, 0, none⟩) (k + 1) cap) ∧ w.heap.size ≤ r ∧ Below w.heap.size w w' ∧ Blk w' r 85 cur ∧ k + 1 ≤ cap ∧ cur.size = cap * 2 ∧ ∀ i, i < k * 2 → w'.cell? ⟨r, 2 + i, none⟩ = (ms.flatMap mtC)[i]? := by
  obtain ⟨A, c, rfl, hrow, hb⟩ := h
  have hrow0 := hrow
  rcases hrow.2 with ⟨hv, _⟩ | ⟨r, cap, cur, hv, hbr, hh, hnc, hcm, hcs, htk⟩
  · simp at hv
  · simp only [Value.slice.injEq, true_and] at hv
    obtain ⟨rfl, rfl⟩ := hv
    have hh' : Blk w' r 85 cur := hh
    refine ⟨r, c, cur, rfl, hbr, hb, hh', hnc, hcs, fun i hi => ?_⟩
    have h1 := hrow0.cellAt (2 + i) (by omega)
    rw [h1, List.flatMap_cons, List.getElem?_append_right (by simp [mtC])]
    congr 1
    simp [mtC]
def RemP (next : Int) (ms : List Mt) (w : World) (e : Ending) (w' : World) : Prop :=
  ∃ A c, e = .returned (.tuple #[.agg #[.slice A ms.length c, .int .i64 next], .int .i64 0]) ∧ StAt w' A c ms ∧ Bel w w'
set_option maxRecDepth 100000 in
set_option maxHeartbeats 4000000 in
theorem remove_calls {w : World} {A : Option Addr} {c : Nat} {m : Mt} {ms : List Mt} (h : StAt w A c (m :: ms)) (next : Int) (hl : ms.length ≤ 100) :
    Calls Tryd.prog 12 #[.agg #[.slice A (ms.length + 1) c, .int .i64 next], .int .i64 (m.id : Int)] w (RemP next ms w) := by
  have HS := Av.mk h
  clear h
  have hba := below_alloc (below_alloc (below_alloc (Below.refl _ w) (.cells #[.slice A (ms.length + 1) c, .int .i64 next] 28)) (.cells #[.int .i64 (m.id : Int)] 3)) (.cells #[.slice none 0 0, .int .i64 0] 28)
  have X1 := Av.mk (((Blk.new w 28 #[.slice A (ms.length + 1) c, .int .i64 next]).alloc (.cells #[.int .i64 (m.id : Int)] 3)).alloc (.cells #[.slice none 0 0, .int .i64 0] 28))
  have I1 := Av.mk ((Blk.new (w.alloc (.cells #[.slice A (ms.length + 1) c, .int .i64 next] 28)) 3 #[.int .i64 (m.id : Int)]).alloc (.cells #[.slice none 0 0, .int .i64 0] 28))
  have Y1 := Av.mk (Blk.new ((w.alloc (.cells #[.slice A (ms.length + 1) c, .int .i64 next] 28)).alloc (.cells #[.int .i64 (m.id : Int)] 3)) 28 #[.slice none 0 0, .int .i64 0])
  have hz1 : (w.alloc (.cells #[.slice A (ms.length + 1) c, .int .i64 next] 28)).heap.size = w.heap.size + 1 := by simp
  have hz2 : ((w.alloc (.cells #[.slice A (ms.length + 1) c, .int .i64 next] 28)).alloc (.cells #[.int .i64 (m.id : Int)] 3)).heap.size = w.heap.size + 2 := by simp
  rw [hz1] at I1
  rw [hz2] at Y1
  have HB1 : Av (Bel w (((w.alloc (.cells #[.slice A (ms.length + 1) c, .int .i64 next] 28)).alloc (.cells #[.int .i64 (m.id : Int)] 3)).alloc (.cells #[.slice none 0 0, .int .i64 0] 28))) := ⟨hba⟩
  have HS1 := Av.mk (HS.out.grow hba)
  clear hba hz1 hz2
  go_enter Tryd.func12, Tryd.ntmps12
  go_upto_region 1 with (fail)
  generalize ((w.alloc (.cells #[.slice A (ms.length + 1) c, .int .i64 next] 28)).alloc (.cells #[.int .i64 (m.id : Int)] 3)).alloc (.cells #[.slice none 0 0, .int .i64 0] 28) = w1 at *
  generalize hg : w.heap.size = g at *
  have HG := Av.mk hg
  clear hg
  have x0 := X1.out.cell 0
  have lx := X1.out.lt
  have i0 := I1.out.cell 0
  simp at x0 i0
  have HIF := Av.mk (indexf_calls HS1.out (g + 1) i0 hl)
  go_wp2_with fail
  refine HIF.out.mono ?_
  rintro e w2 ⟨rfl, hb2⟩
  have HB2 : Av (Bel w w2) := ⟨below_then HB1.out (Below.size HB1.out) hb2⟩
  have X2 := Av.mk (X1.out.keep (Keep.of_below (S := fun _ => False) hb2) (by simp))
  have Y2 := Av.mk (Y1.out.keep (Keep.of_below (S := fun _ => False) hb2) (by simp))
  have HS2 := Av.mk (HS1.out.grow hb2)
  clear hb2 X1 Y1 I1 HS1 HB1 x0 lx i0 HIF
  have HCL : Av (∀ W, Bel w2 W → Calls Tryd.prog 43 #[.slice A (ms.length + 1) c] W (CloneP 85 2 (ms.length + 1) ((m :: ms).flatMap mtC) W)) := ⟨fun W hW => clone85 _ W A (ms.length + 1) c _ (HS2.out.1.grow hW) (mtC_one _) (by omega)⟩
  have hml := mtC_len ms
  generalize hk : ms.length = k at *
  have x0 := X2.out.cell 0
  have x1 := X2.out.cell 1
  have lx := X2.out.lt
  have y0 := Y2.out.cell 0
  have y1 := Y2.out.cell 1
  have f0 := Y2.out.frozen 0
  have f1 := Y2.out.frozen 1
  have ly := Y2.out.lt
  simp at x0 x1 y0 y1
  have hgg : g ≠ g + 1 + 1 := by omega
  go_upto_region 4 with (fail)
  go_region_held3 (fun W => W.cell? ⟨g, 0, none⟩ = some (.slice A (k + 1) c) ∧ W.cell? ⟨g, 1, none⟩ = some (.int .i64 next)) (first | (exact ⟨by assumption, by assumption⟩) | go_keep | (exact ⟨((Xb.out.far (p := ⟨g + 1 + 1, 0, none⟩) hgg _).far (p := ⟨g + 1 + 1, 1, none⟩) hgg _).cell 0, ((Xb.out.far (p := ⟨g + 1 + 1, 0, none⟩) hgg _).far (p := ⟨g + 1 + 1, 1, none⟩) hgg _).cell 1⟩))
    (first
    | (go_at_call 42
       refine (HDL.out).mono ?_
       rintro e wb ⟨rfl, hblk, hcel, hkp⟩
       have HKP := Av.mk hkp
       have HCEL := Av.mk hcel
       have HBLK := Av.mk hblk
       have Xb := Av.mk (Xa.out.keep hkp HNG.out.1)
       have Yb := Av.mk (Ya.out.keep hkp HNG.out.2)
       have xb0 := Xb.out.cell 0
       have xb1 := Xb.out.cell 1
       have lxb := Xb.out.lt
       have yb0 := Yb.out.cell 0
       have yb1 := Yb.out.cell 1
       have fb0 := Yb.out.frozen 0
       have fb1 := Yb.out.frozen 1
       have lyb := Yb.out.lt
       simp at xb0 xb1 yb0 yb1
       clear hblk hcel hkp)
    | (go_at_call 43
       refine (HCL.out _ (bel_drew _)).mono ?_
       rintro e wa hcp
       obtain ⟨r, cap, cur, rfl, hrn, hwa, hra, hcap, hcsz, hcl⟩ := hcp.opened85 hk
       have HBa : Av (Bel w2 wa) := ⟨below_then (bel_drew w2) (Below.size (bel_drew w2)) hwa⟩
       have Xa := Av.mk (X2.out.drew.keep (Keep.of_below (S := fun _ => False) hwa) (by simp))
       have Ya := Av.mk (Y2.out.drew.keep (Keep.of_below (S := fun _ => False) hwa) (by simp))
       have HDL := Av.mk (delete_calls hra hcsz hcap hl (ms.flatMap mtC) hml (mtC_one ms) hcl)
       have HRA := Av.mk hra
       have hrnew : Av (¬ r < w2.heap.size) := ⟨fun h => absurd hrn (by simpa using h)⟩
       have HNG : Av (¬ g = r ∧ ¬ g + 1 + 1 = r) := ⟨by rintro h; exact Xa.out.ne_ hra (by decide) h, by rintro h; exact Ya.out.ne_ hra (by decide) h⟩
       have xa0 := Xa.out.cell 0
       have xa1 := Xa.out.cell 1
       have lxa := Xa.out.lt
       simp at xa0 xa1
       clear hcp hwa hra hrn))
  have Y3 : Av (Blk ((wb.setCell ⟨g + 1 + 1, 0, none⟩ (.slice (some ⟨r, 0, none⟩) k cap)).setCell ⟨g + 1 + 1, 1, none⟩ (.int .i64 next)) (g + 1 + 1) 28 #[.slice (some ⟨r, 0, none⟩) k cap, .int .i64 next]) := ⟨by
    have := (Yb.out.set_ 0 (.slice (some ⟨r, 0, none⟩) k cap)).set_ 1 (.int .i64 next)
    simpa using this⟩
  have hk3 : Keep (fun k => k = g + 1 + 1) wb ((wb.setCell ⟨g + 1 + 1, 0, none⟩ (.slice (some ⟨r, 0, none⟩) k cap)).setCell ⟨g + 1 + 1, 1, none⟩ (.int .i64 next)) :=
    ((Keep.refl (fun k => k = g + 1 + 1) wb).setCell (p := ⟨g + 1 + 1, 0, none⟩) (fun _ => rfl) _).setCell (p := ⟨g + 1 + 1, 1, none⟩) (fun _ => rfl) _
  have HK3 := Av.mk hk3
  clear hk3 x0 x1 lx xa0 xa1 lxa xb0 xb1 lxb yb0 yb1 fb0 fb1 y0 y1 f0 f1 ly lyb
  generalize (wb.setCell ⟨g + 1 + 1, 0, none⟩ (.slice (some ⟨r, 0, none⟩) k cap)).setCell ⟨g + 1 + 1, 1, none⟩ (.int .i64 next) = w3 at *
  have e0 := Y3.out.cell 0
  have e1 := Y3.out.cell 1
  simp at e0 e1
  go_wp2_with fail
  refine bodyPost_ret (v := .tuple #[.agg #[.slice (some ⟨r, 0, none⟩) k cap, .int .i64 next], .int .i64 0]) (by simp [results, Tryd.results12, go_sem, e0, e1]) rfl ?_
  have hrlt : w2.heap.size ≤ r := by
    rcases Nat.lt_or_ge r w2.heap.size with h | h
    · exact absurd h hrnew.out
    · exact h
  have hB3 : Bel w w3 := by
    have h0 := HG.out
    have h1 : Below w.heap.size w wa := below_then HB2.out (Below.size HB2.out) HBa.out
    have h2 := Below.size HB2.out
    exact (h1.trans (HKP.out.below (by have := h1.size; omega) (fun k h => by omega))).trans (HK3.out.below (by have := h1.size; have := HKP.out.size; omega) (fun k h => by omega))
  obtain ⟨cur', hcur'⟩ := HBLK.out
  have hne : r ≠ g + 1 + 1 := fun h => HNG.out.2 h.symm
  refine ⟨some ⟨r, 0, none⟩, cap, by rw [hk], ⟨?_, fun x hx => ?_⟩, hB3⟩
  · have h3 := hcur'.keep HK3.out hne
    rw [hk]
    refine ⟨by simpa using hml, ?_⟩
    by_cases hk0 : k = 0
    · exact .inl ⟨hk0, _, _, by rw [hk0]⟩
    · refine .inr ⟨r, 0, cap, rfl, by omega, h3.isT, h3.lt, fun i hi => ?_⟩
      rw [Nat.zero_add, ← HCEL.out i hi, h3.cell i, hcur'.cell i]
  · have h4 := (HS2.out.2 x (List.mem_cons_of_mem _ hx)).grow HBa.out
    have h5 := h4.keep (e := 85) HKP.out (by decide) (by decide) (by decide) (by decide) (fun k h => by rw [h]; exact HRA.out.isT)
    exact h5.keep (e := 28) HK3.out (by decide) (by decide) (by decide) (by decide) (fun k h => by rw [h]; exact Yb.out.isT)
end Go.Proofs.YtkmojgdjapfbbaaDoor
