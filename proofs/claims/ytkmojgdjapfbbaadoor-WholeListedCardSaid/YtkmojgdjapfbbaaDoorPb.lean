/- A struct stored whole. -/
import Derived.Test.YtkmojgdjapfbbaaDoorRow
namespace Go.Proofs.YtkmojgdjapfbbaaDoor
open Go.RowKit Go.Maps

/-- A struct stored into a block of its own. -/
theorem wpList_putB {P : Program} {w : World} {ops : Array Oper} {rest : List Oper} {o : Oper} {a : Act} {Q : Exit → Act → World → Prop} (hgd : o.guard = none) (ty : TypeId) (x y : Operand) (ho : o.op = .store ty x y)
    (g : Nat) (t : TypeId) (cs cells : Array Value) (hx : a.eval x = .pointer (some ⟨g, 0, none⟩)) (hy : a.eval y = .agg cells) (hi : (P.info? ty).map (·.size) = some cells.size)
    (hb : Blk w g t cs) (hsz : cs.size = cells.size) (h1 : ∀ v ∈ cells.toList, v.oneCell' = true)
    (h : ∀ w', Blk w' g t cells → Keep (fun k => k = g) w w' → wpList P ops Q rest (a.put o.dst undef) w') :
    wpList P ops Q (o :: rest) a w := by
  refine wpList_plain hgd fun K hK => ?_
  have hst := run_storeCells_at P g 0 t cells.toList 0 cs w hb (by simp; omega) h1
  have hcur : (cs.toList.take (0 + 0) ++ cells.toList ++ cs.toList.drop (0 + 0 + cells.toList.length)).toArray = cells := by
    have e : cs.toList.drop (0 + 0 + cells.toList.length) = [] := List.drop_eq_nil_of_le (by simp; omega)
    rw [e]
    simp
  rw [hcur] at hst
  have hsv : (storeVar ty ⟨g, 0, none⟩ (.agg cells)).run P w = .ok () (w.setRow g cells) := by
    cases hq : P.info? ty with
    | none => simp [hq] at hi
    | some i =>
      have hs : cells.size = i.size := by simp [hq] at hi; omega
      simp [storeVar, sizeOf, typeInfo, hq, Value.cells, hs, hst]
  unfold Oper.wp execOp
  simp only [ho, hx, hy, Instr.storeAt, Instr.sureAddr, Sem.run_bind, Sem.run_pure, Result.andThen_ok, hsv]
  exact hK _ _ (h _ (setRow_heap w g cs cells t (0, 0) hb) (setRow_keep w g _))
end Go.Proofs.YtkmojgdjapfbbaaDoor
