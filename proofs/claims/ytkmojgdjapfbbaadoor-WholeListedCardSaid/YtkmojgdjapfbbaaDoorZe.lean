/- tree.zero. -/
import Derived.Test.YtkmojgdjapfbbaaDoorTr
import Derived.Test.YtkmojgdjapfbbaaDoorXr
import Derived.BigQuiet
namespace Go.Proofs.YtkmojgdjapfbbaaDoor
open Go.RowKit Go.Maps
set_option linter.unusedSimpArgs false
set_option linter.unusedVariables false

/-- Nothing old has turned (behind a name of its own). -/
def Bel (w w' : World) : Prop := Below w.heap.size w w'
theorem Bel.drewN {w w' : World} (h : Bel w w') (n : Nat) : Bel w (w'.drewN n) := below_drewN h n
/-- Has a node nothing but what its kind has? -/
def zB (k : Int) (o : Bool) (nn ni : Nat) (sz : Int) (ne : Nat) (tg : ByteArray) : Bool :=
  !((!(k == 2) && (o || decide (0 < nn) || decide (0 < ni))) || (!(k == 1) && ((sz != 0) || decide (0 < ne)))) && ((k == 3) || tg.toList.isEmpty)
def T.zero (t : T) : Bool := zB t.kind t.opq t.names.length t.items.length t.size t.exts.length t.target
set_option maxHeartbeats 8000000 in
theorem zero_walk (k : Int) (o : Bool) (An Ai Ae : Option Addr) (nn cn ni ci ne ce : Nat) (sz : Int) (tg : ByteArray) (w : World) :
    Calls Tryd.prog 84 #[.agg #[.int .i64 k, .bool o, .slice An nn cn, .slice Ai ni ci, .int .i64 sz, .slice Ae ne ce, .string tg]] w (RetB (.bool (zB k o nn ni sz ne tg)) w) := by
  go_enter Tryd.func84, Tryd.ntmps84
  go_wp2_with fail
  have X := Av.mk (Blk.new w 33 #[.int .i64 k, .bool o, .slice An nn cn, .slice Ai ni ci, .int .i64 sz, .slice Ae ne ce, .string tg])
  have hbl0 : Av (Bel w (w.alloc (.cells #[.int .i64 k, .bool o, .slice An nn cn, .slice Ai ni ci, .int .i64 sz, .slice Ae ne ce, .string tg] 33))) := ⟨below_alloc (Below.refl _ w) _⟩
  generalize w.alloc (.cells #[.int .i64 k, .bool o, .slice An nn cn, .slice Ai ni ci, .int .i64 sz, .slice Ae ne ce, .string tg] 33) = w1 at *
  generalize w.heap.size = g at *
  have c0 := X.out.cell 0; have c1 := X.out.cell 1; have c2 := X.out.cell 2; have c3 := X.out.cell 3; have c4 := X.out.cell 4; have c5 := X.out.cell 5; have c6 := X.out.cell 6
  have lx := X.out.lt
  simp at c0 c1 c2 c3 c4 c5 c6
  go_quiet (fail)
  have hbl := Av.mk (hbl0.out.drewN nq)
  by_cases h2 : (k == 2) = true
  · skip
    by_cases h1 : (k == 1) = true
    · skip
      by_cases h3 : (k == 3) = true
      · skip
        go_wp2_with fail
        go_ret
        exact ⟨retb (by simp [zB, h2, h1, h3]), hbl.out⟩
      · replace h3 : (k == 3) = false := by simpa using h3
        by_cases ht : tg.toList.isEmpty = true
        · skip
          go_wp2_with fail
          go_ret
          exact ⟨retb (by simp [zB, h2, h1, h3, ht]), hbl.out⟩
        · replace ht : tg.toList.isEmpty = false := by simpa using ht
          go_wp2_with fail
          go_ret
          exact ⟨retb (by simp [zB, h2, h1, h3, ht]), hbl.out⟩
    · replace h1 : (k == 1) = false := by simpa using h1
      by_cases hs : (sz != 0) = true
      · skip
        go_wp2_with fail
        go_ret
        exact ⟨retb (by simp [zB, h2, h1, hs]), hbl.out⟩
      · replace hs : (sz != 0) = false := by simpa using hs
        by_cases he : decide (0 < ne) = true
        · skip
          go_wp2_with fail
          go_ret
          exact ⟨retb (by simp [zB, h2, h1, hs, he]), hbl.out⟩
        · replace he : decide (0 < ne) = false := by simpa using he
          by_cases h3 : (k == 3) = true
          · skip
            go_wp2_with fail
            go_ret
            exact ⟨retb (by simp [zB, h2, h1, hs, he, h3]), hbl.out⟩
          · replace h3 : (k == 3) = false := by simpa using h3
            by_cases ht : tg.toList.isEmpty = true
            · skip
              go_wp2_with fail
              go_ret
              exact ⟨retb (by simp [zB, h2, h1, hs, he, h3, ht]), hbl.out⟩
            · replace ht : tg.toList.isEmpty = false := by simpa using ht
              go_wp2_with fail
              go_ret
              exact ⟨retb (by simp [zB, h2, h1, hs, he, h3, ht]), hbl.out⟩
  · replace h2 : (k == 2) = false := by simpa using h2
    by_cases ho : o = true
    · skip
      go_wp2_with fail
      go_ret
      exact ⟨retb (by simp [zB, h2, ho]), hbl.out⟩
    · replace ho : o = false := by simpa using ho
      by_cases hn : decide (0 < nn) = true
      · skip
        go_wp2_with fail
        go_ret
        exact ⟨retb (by simp [zB, h2, ho, hn]), hbl.out⟩
      · replace hn : decide (0 < nn) = false := by simpa using hn
        by_cases hi : decide (0 < ni) = true
        · skip
          go_wp2_with fail
          go_ret
          exact ⟨retb (by simp [zB, h2, ho, hn, hi]), hbl.out⟩
        · replace hi : decide (0 < ni) = false := by simpa using hi
          by_cases h1 : (k == 1) = true
          · skip
            by_cases h3 : (k == 3) = true
            · skip
              go_wp2_with fail
              go_ret
              exact ⟨retb (by simp [zB, h2, ho, hn, hi, h1, h3]), hbl.out⟩
            · replace h3 : (k == 3) = false := by simpa using h3
              by_cases ht : tg.toList.isEmpty = true
              · skip
                go_wp2_with fail
                go_ret
                exact ⟨retb (by simp [zB, h2, ho, hn, hi, h1, h3, ht]), hbl.out⟩
              · replace ht : tg.toList.isEmpty = false := by simpa using ht
                go_wp2_with fail
                go_ret
                exact ⟨retb (by simp [zB, h2, ho, hn, hi, h1, h3, ht]), hbl.out⟩
          · replace h1 : (k == 1) = false := by simpa using h1
            by_cases hs : (sz != 0) = true
            · skip
              go_wp2_with fail
              go_ret
              exact ⟨retb (by simp [zB, h2, ho, hn, hi, h1, hs]), hbl.out⟩
            · replace hs : (sz != 0) = false := by simpa using hs
              by_cases he : decide (0 < ne) = true
              · skip
                go_wp2_with fail
                go_ret
                exact ⟨retb (by simp [zB, h2, ho, hn, hi, h1, hs, he]), hbl.out⟩
              · replace he : decide (0 < ne) = false := by simpa using he
                by_cases h3 : (k == 3) = true
                · skip
                  go_wp2_with fail
                  go_ret
                  exact ⟨retb (by simp [zB, h2, ho, hn, hi, h1, hs, he, h3]), hbl.out⟩
                · replace h3 : (k == 3) = false := by simpa using h3
                  by_cases ht : tg.toList.isEmpty = true
                  · skip
                    go_wp2_with fail
                    go_ret
                    exact ⟨retb (by simp [zB, h2, ho, hn, hi, h1, hs, he, h3, ht]), hbl.out⟩
                  · replace ht : tg.toList.isEmpty = false := by simpa using ht
                    go_wp2_with fail
                    go_ret
                    exact ⟨retb (by simp [zB, h2, ho, hn, hi, h1, hs, he, h3, ht]), hbl.out⟩
theorem zero_calls {B : Nat → Prop} {w : World} {p : NV} {t : T} (h : Rep B w p t) : Calls Tryd.prog 84 #[nodeV p t] w (RetB (.bool t.zero) w) := by
  obtain ⟨An, cn, Ai, ci, Ae, ce, rfl⟩ := h.parts
  exact zero_walk _ _ _ _ _ _ _ _ _ _ _ _ _ w
end Go.Proofs.YtkmojgdjapfbbaaDoor
