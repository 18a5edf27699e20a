/- socagelaw04.small's plain twin. -/
import Derived.Test.YtkmojgdjapfbbaaDoorSm
namespace Go.Proofs.YtkmojgdjapfbbaaDoor
open Go.RowKit Go.Maps
set_option linter.unusedSimpArgs false
set_option linter.unusedVariables false

/-- What is left behind some extents. -/
def xsub : Int → List IExt → Int
  | left, [] => left
  | left, x :: E => xsub (wrap64 (left - x.2.size)) E
/-- What is left behind a node's own words. -/
def own49 (left : Int) (t : T) : Int := wrap64 (xsub (wrap64 (left - wrap64 (1 + t.names.length + t.exts.length))) t.exts - t.target.size)
mutual
def T.sm (depth left : Int) : T → Bool × Int
  | .node k o ns its sz ex tg => if own49 left (.node k o ns its sz ex tg) < 0 ∨ depth < 0 then (false, own49 left (.node k o ns its sz ex tg)) else T.smL (depth - 1) (own49 left (.node k o ns its sz ex tg)) its
def T.smL (depth left : Int) : List T → Bool × Int
  | [] => (true, left)
  | t :: l => if (T.sm depth left t).1 = true then T.smL depth (T.sm depth left t).2 l else (false, (T.sm depth left t).2)
end
theorem xsub_exact (E : List IExt) : ∀ left : Int, left ≤ 9223372036854775807 → (xsz E : Int) ≤ 9223372036854775808 + left → xsub left E = left - xsz E := by
  induction E with
  | nil => intro left h1 h2; simp [xsub, xsz]
  | cons x E ih =>
    intro left h1 h2
    have e : (xsz (x :: E) : Int) = x.2.size + xsz E := by simp [xsz]
    rw [e] at h2 ⊢
    have h3 : (0 : Int) ≤ xsz E := by omega
    have h4 : wrap64 (left - (x.2.size : Int)) = left - x.2.size := by unfold wrap64; omega
    simp only [xsub]
    rw [h4, ih _ (by omega) (by omega)]
    omega
end Go.Proofs.YtkmojgdjapfbbaaDoor
