/- lcache.Cache: Take whose Keep is refused. Printed by mac.py from LdT.src. -/
import Derived.Test.YtiopmehaghcpfaaLdS
namespace Go.Proofs.Ytiopmehaghcpfaa.L
open Go.Proofs.Ytiopmehaghcpfaa
open Go.RowKit Go.Maps
set_option linter.unusedSimpArgs false
set_option linter.unusedVariables false
attribute [local go_sem ↓] run_max_int run_min_int

def TakeNo (w0 : World) (g gs n : Nat) (r made : Int) (vs : Value) (G : Nat → Nat) (V : Nat → Value) (Ls : Nat → PL) (i : Nat) (m : Nat) (xs : List Value) (Q : World → World → Prop) (w : World) (e : Ending) (w' : World) : Prop :=
  ∃ A0 c0 W W', e = .returned (.slice A0 m c0) ∧ w'.ownsRow W.heap.size 83 2 (.slice A0 m c0) m xs ∧ Lc w0 w' g gs n r made vs G V Ls ∧ KeepC g G V i w W ∧ Q W W' ∧ KeepC g G V i W' w'

set_option maxRecDepth 100000 in
set_option maxHeartbeats 4000000 in
theorem take_no (w0 w : World) (g gs n : Nat) (r made : Int) (vs : Value) (G : Nat → Nat) (V : Nat → Value) (Ls : Nat → PL) (h : Lc w0 w g gs n r made vs G V Ls) (hn0 : 0 < n) (hn1 : n ≤ 256) (h0 : 0 ≤ made) (h1 : made ≤ 1000000)
    (k : ByteArray) (hks : k.size ≤ 3000) (i : Nat) (hi : shd n k = i) (x : Pay) (l' l'' : PL) (ep : Int) (hP : GetIs r (Ls i) k l' x true) (hP1 : GetIs r l' k l'' x true) (hm : ep < x.ep)
    (m : Nat) (xs : List Value) (fn : Nat) (cap : Array Value) (Q : World → World → Prop)
    (hcf : ∀ W, (callFunc fn cap).run Try.prog W = .ok (.enter fn cap) W) (hF : ∀ W, KeepC g G V i w W → Lc w0 W g gs n r (made + 1) vs G V (up Ls i l') → Calls Try.prog fn cap W (MakesIs w0 g gs n r (made + 1) vs G V (up Ls i l') m xs Q W)) :
    Calls Try.prog 48 #[.pointer (some ⟨g, 0, none⟩), .int .i64 ep, .string k, .func (.func fn) #[] cap] w (TakeNo w0 g gs n r (made + 1) vs G V (up Ls i l'') i m xs Q w) := by
  have hil : i < n := by rw [← hi]; exact shd_lt hn0 k
  have HL := Av.mk (look_miss w0 w g gs n r made vs G V Ls h hn0 hn1 k hks i hi x l' true ep hP (.inr (by omega)))
  have HF := Av.mk hF
  have HK := Av.mk (fun W (hW : Lc w0 W g gs n r (made + 1) vs G V (up Ls i l')) (sv : Value) => keep_no w0 W g gs n r (made + 1) vs G V (up Ls i l') hW hn0 hn1 k hks i hi x ep sv l'' (by rw [up_same]; exact hP1) hm)
  clear h hF hP hP1 hm hi
  go_enter Try.func48, Try.ntmps48
  go_wp2_with fail
  refine HL.out.mono ?_
  rintro e w1 ⟨rfl, hd1, k1⟩
  have K1 := Av.mk k1
  have a1 := hd1.blk.cell 1
  have f1 := hd1.blk.frozen 1
  have lg := hd1.blk.lt
  simp at a1
  have HD2 := Av.mk (hd1.set (made + 1))
  have K2 := Av.mk (show KeepC g G V i w (w1.setCell ⟨g, 1, none⟩ (.int .i64 (made + 1))) from k1.setCell (p := ⟨g, 1, none⟩) (fun _ => .inl rfl) (.int .i64 (made + 1)))
  have hw : IntKind.i64.wrap (made + 1) = made + 1 := wrapI (by omega) (by omega)
  clear hd1 k1 HL
  go_wp2_with fail
  generalize w1.setCell ⟨g, 1, none⟩ (.int .i64 (made + 1)) = w2 at *
  refine (HF.out w2 K2.out HD2.out).mono ?_
  rintro e w3 ⟨A0, c0, rfl, hr3, hd3, hq3⟩
  have HR3 := Av.mk hr3
  have HD3 := Av.mk hd3
  have HQ3 := Av.mk hq3
  clear hr3 hd3 hq3 HD2 a1 f1 lg hw HF
  go_wp2_with fail
  refine (HK.out w3 HD3.out _).mono ?_
  rintro e w4 ⟨rfl, hd4, k4⟩
  have HD4 := Av.mk hd4
  have K4 := Av.mk k4
  have HR34 := Av.mk (HD3.out.row83 hil k4 HR3.out)
  clear hd4 k4
  rw [up_up] at HD4
  go_wp2
  go_ret
  exact ⟨A0, c0, w2, w3, rfl, HR34.out, HD4.out, K2.out, HQ3.out, K4.out⟩
end Go.Proofs.Ytiopmehaghcpfaa.L
