/- branch: New, at, Kind, Opaque, Look. -/
import Derived.Test.YtkmojgdjapfbbaaDoorBa
import Derived.Test.YtkmojgdjapfbbaaDoorFi
namespace Go.Proofs.YtkmojgdjapfbbaaDoor
open Go.RowKit Go.Maps
set_option linter.unusedSimpArgs false
set_option linter.unusedVariables false

/-- A branch in memory. -/
def BrAt (w : World) (b : Nat) (xs : List Ino) : Prop := ∃ (C : Nat → Prop) (base : Nat) (A : Option Addr) (c : Nat) (rows : List (RV × Ino)), rows.map (·.2) = xs ∧ TabAt C w b base A c rows
theorem BrAt.grow {w w' : World} {b : Nat} {xs : List Ino} (h : BrAt w b xs) (hb : Below w.heap.size w w') : BrAt w' b xs := by
  obtain ⟨C, base, A, c, rows, h1, h2⟩ := h
  exact ⟨C, base, A, c, rows, h1, h2.grow hb⟩
theorem BrAt.lt {w : World} {b : Nat} {xs : List Ino} (h : BrAt w b xs) : b < w.heap.size := by
  obtain ⟨C, base, A, c, rows, h1, h2⟩ := h
  exact h2.blk.lt
def NewP (xs : List Ino) (w : World) (e : Ending) (w' : World) : Prop := ∃ b, e = .returned (.tuple #[.pointer (some ⟨b, 0, none⟩), .int .i64 0]) ∧ BrAt w' b xs ∧ Bel w w'
set_option maxRecDepth 100000 in
set_option maxHeartbeats 2000000 in
theorem New_calls {B : Nat → Prop} {w : World} {p : NV} {t : T} (h : Rep B w p t) (hB : ∀ k, B k → k < w.heap.size) (hf : Fit PnC PtC t) (hr : t.right = true) (hw : t.wt ≤ 1000000) : Calls Tryd.prog 54 #[nodeV p t] w (NewP (t.rows 0) w) := by
  have hct := t.count_le_wt
  have HR : Av (∀ W, Bel w W → Calls Tryd.prog 27 #[nodeV p t] W (RetB (.bool true) W)) := ⟨fun W hW => by
    have h1 := Right_calls (h.grow hW) (fun k hk => Nat.lt_of_lt_of_le (hB k hk) (Below.size hW)) hf
    rw [hr] at h1
    exact h1⟩
  have HA : Av (∀ (W : World), Bel w W → Blk W (W.heap.size - 1) 110 #[.slice none 0 0] → w.heap.size < W.heap.size → Calls Tryd.prog 79 #[.pointer (some ⟨W.heap.size - 1, 0, none⟩), nodeV p t] W (AddP (fun _ => True) 0 (W.heap.size - 1) w.heap.size none [] (t.rows 0) W)) := ⟨fun W hW hb hlt =>
    add_calls t B _ W p _ w.heap.size none 0 [] (h.grow hW) hB (by omega) (Below.size hW) ⟨hb, ⟨rfl, .inl ⟨rfl, rfl⟩⟩, fun r hr => by cases hr⟩ (by simp; omega) hw⟩
  obtain ⟨An, cn, Ai, ci, Ae, ce, rfl⟩ := h.parts
  generalize T.rows 0 t = xs at *
  obtain ⟨k, o, ns, its, sz, ex, tg⟩ := t
  clear h hf hr hct hw
  show Calls Tryd.prog 54 #[.agg #[.int .i64 k, .bool o, .slice An ns.length cn, .slice Ai its.length ci, .int .i64 sz, .slice Ae ex.length ce, .string tg]] w _
  have X := Av.mk (Blk.new w 33 #[.int .i64 k, .bool o, .slice An ns.length cn, .slice Ai its.length ci, .int .i64 sz, .slice Ae ex.length ce, .string tg])
  have HB1 : Av (Bel w (w.alloc (.cells #[.int .i64 k, .bool o, .slice An ns.length cn, .slice Ai its.length ci, .int .i64 sz, .slice Ae ex.length ce, .string tg] 33))) := ⟨below_alloc (Below.refl _ w) _⟩
  go_enter Tryd.func54, Tryd.ntmps54
  go_wp2_with fail
  refine (HR.out _ HB1.out).mono ?_
  rintro e w2 ⟨rfl, hb2⟩
  have HB2 : Av (Bel w w2) := ⟨below_then HB1.out (Below.size HB1.out) hb2⟩
  have X2 := Av.mk (X.out.keep (Keep.of_below (S := fun _ => False) hb2) (by simp))
  clear hb2 X
  generalize hg : w.heap.size = g at *
  have c0 := X2.out.cell 0; have c1 := X2.out.cell 1; have c2 := X2.out.cell 2; have c3 := X2.out.cell 3; have c4 := X2.out.cell 4; have c5 := X2.out.cell 5; have c6 := X2.out.cell 6
  have lx := X2.out.lt
  simp at c0 c1 c2 c3 c4 c5 c6
  go_upto_region 4 with (fail)
  have HB3 : Av (Bel w (w2.alloc (.cells #[.slice none 0 0] 110))) := ⟨HB2.out.alloc (Below.size HB2.out) _⟩
  have Z3 := Av.mk (Blk.new w2 110 #[.slice none 0 0])
  have X3 := Av.mk (X2.out.alloc (.cells #[.slice none 0 0] 110))
  have hz3 : (w2.alloc (.cells #[.slice none 0 0] 110)).heap.size = w2.heap.size + 1 := by simp
  have HC := Av.mk (HA.out _ HB3.out (by rw [hz3]; exact Z3.out) (by rw [hz3]; omega))
  rw [hz3, Nat.add_sub_cancel] at HC
  have HGW : g ≤ w2.heap.size := by omega
  clear c0 c1 c2 c3 c4 c5 c6 lx hz3 X2 HA HR
  generalize w2.alloc (.cells #[.slice none 0 0] 110) = w3 at *
  generalize w2.heap.size = b at *
  have c0 := X3.out.cell 0; have c1 := X3.out.cell 1; have c2 := X3.out.cell 2; have c3 := X3.out.cell 3; have c4 := X3.out.cell 4; have c5 := X3.out.cell 5; have c6 := X3.out.cell 6
  have lx := X3.out.lt
  simp at c0 c1 c2 c3 c4 c5 c6
  go_wp2_with fail
  refine HC.out.mono ?_
  rintro e w4 ⟨A4, c4', new, rfl, hmap, ht, hk, _⟩
  have HT : Av (BrAt w4 b xs) := ⟨⟨_, _, _, _, _, hmap, ht⟩⟩
  have HB4 : Av (Bel w w4) := ⟨by
    have h1 : Below w.heap.size w w3 := HB3.out
    refine h1.trans (hk.below (by rw [hg]; omega) (fun k h => ?_))
    rcases h with h | h
    · rw [h, hg]; exact HGW
    · obtain ⟨n, c, h⟩ := h
      simp [Value.ownBlock] at h⟩
  clear hmap ht hk
  go_wp2_with fail
  go_ret2
  exact ⟨b, rfl, HT.out, HB4.out⟩
end Go.Proofs.YtkmojgdjapfbbaaDoor
