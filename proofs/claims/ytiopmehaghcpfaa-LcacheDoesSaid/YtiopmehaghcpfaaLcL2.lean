/- lcache.Cache: New, Many, Made, Of, Len, Most. Printed by mac.py from LcL2.src. -/
import Derived.Test.YtiopmehaghcpfaaLcL
namespace Go.Proofs.Ytiopmehaghcpfaa.L
open Go.Proofs.Ytiopmehaghcpfaa
open Go.RowKit Go.Maps
set_option linter.unusedSimpArgs false
set_option linter.unusedVariables false
attribute [local go_sem ↓] run_max_int run_min_int

theorem new_L (many room : Int) (n : Nat) (hn : mn (mx many 1) 256 = (n : Int)) (hn1 : 1 ≤ n) (hn2 : n ≤ 256) (w0 w : World) (hb : Below w0.heap.size w0 w) :
    Calls Try.prog 39 #[.int .i64 many, .int .i64 room] w (fun e w' => ∃ g vs G V, e = .returned (.pointer (some ⟨g, 0, none⟩)) ∧ w.heap.size ≤ g ∧ Lc w0 w' g w.heap.size n (mx room 1) 0 vs G V (fun _ => []) ∧ Below w.heap.size w w') := by
  have HB := Av.mk hb
  have HS := Av.mk (snew_calls many room n hn hn1 hn2 w0.heap.size 0 (fun _ => 0) (fun _ => 0) (fun _ => .slice none 0 0) (fun _ => []) w (Fam.nil w _ _ _ _ _) hb.size)
  clear hb
  go_enter Try.func39, Try.ntmps39
  go_wp2_with fail
  refine HS.out.mono ?_
  rintro e w1 ⟨v, G, V, rfl, hb1, hs, hf, _⟩
  have HB1 := Av.mk hb1
  have HS1 := Av.mk (hs.congr (G' := G) (fun j _ => by simp))
  have HF1 := Av.mk (show Fam w1 w0.heap.size n (fun _ => mx room 1) G V (fun _ => []) from (hf.congr (m := 0 + n) (fun i _ => ⟨by unfold joinF; rw [if_neg (by omega)], rfl, rfl, by unfold joinF; rw [if_neg (by omega)]⟩) |> fun h => by rw [Nat.zero_add] at h; exact h))
  clear hb1 hs hf
  go_wp2
  go_ret
  have hb2 := below_alloc (Below.refl _ w1) (.cells #[.pointer (some ⟨w.heap.size, 0, none⟩), .int .i64 0] 143)
  exact ⟨w1.heap.size, v, G, V, rfl, HB1.out.size, ⟨Blk.new w1 143 #[.pointer (some ⟨w.heap.size, 0, none⟩), .int .i64 0], HS1.out.below hb2, HF1.out.below hb2, below_then (below_then HB.out HB.out.size HB1.out) (Nat.le_trans HB.out.size HB1.out.size) hb2, Nat.le_trans HB.out.size HB1.out.size⟩, below_then HB1.out HB1.out.size hb2⟩

section
variable {w0 w : World} {g gs n : Nat} {r made : Int} {vs : Value} {G : Nat → Nat} {V : Nat → Value} {Ls : Nat → PL}
theorem many_L (h : Lc w0 w g gs n r made vs G V Ls) : Calls Try.prog 60 #[.pointer (some ⟨g, 0, none⟩)] w (Same (.int .i64 n) w) := by
  have HM := Av.mk (many_calls gs gs n vs G w ⟨h.sh.blk, h.sh.row⟩)
  have a0 := h.blk.cell 0
  have lg := h.blk.lt
  simp at a0
  clear h
  go_enter Try.func60, Try.ntmps60
  go_wp2_with fail
  refine HM.out.mono ?_
  rintro e _ ⟨rfl, rfl⟩
  go_wp2
  go_ret
  exact ⟨rfl, rfl⟩
theorem made_L (h : Lc w0 w g gs n r made vs G V Ls) : Calls Try.prog 51 #[.pointer (some ⟨g, 0, none⟩)] w (Same (.int .i64 made) w) := by
  have a0 := h.blk.cell 1
  have lg := h.blk.lt
  simp at a0
  clear h
  go_enter Try.func51, Try.ntmps51
  go_wp2
  go_ret
  exact ⟨rfl, rfl⟩
theorem most_L (h : Lc w0 w g gs n r made vs G V Ls) (hn : n ≤ 256) : Calls Try.prog 59 #[.pointer (some ⟨g, 0, none⟩)] w (Same (.int .i64 (most (fun j => (Ls j).length) n)) w) := by
  have hm := most_calls gs gs n vs 0 _ _ _ G V Ls w (h.sh.congr (fun j _ => by simp)) h.fam (by omega) hn
  have e : (fun j => (Ls (0 + j)).length) = fun j => (Ls j).length := by funext j; rw [Nat.zero_add]
  rw [e] at hm
  have HM := Av.mk hm
  have a0 := h.blk.cell 0
  have lg := h.blk.lt
  simp at a0
  clear h hm
  go_enter Try.func59, Try.ntmps59
  go_wp2_with fail
  refine HM.out.mono ?_
  rintro e _ ⟨rfl, rfl⟩
  go_wp2
  go_ret
  exact ⟨rfl, rfl⟩
theorem len_L (h : Lc w0 w g gs n r made vs G V Ls) (j : Nat) (hj : j < n) : Calls Try.prog 58 #[.pointer (some ⟨g, 0, none⟩), .int .i64 j] w (Same (.int .i64 (Ls j).length) w) := by
  have hm := slen_calls gs gs n vs 0 _ _ _ G V Ls j w (h.sh.congr (fun j _ => by simp)) h.fam (by omega) hj
  rw [Nat.zero_add] at hm
  have HM := Av.mk hm
  have a0 := h.blk.cell 0
  have lg := h.blk.lt
  simp at a0
  clear h hm
  go_enter Try.func58, Try.ntmps58
  go_wp2_with fail
  refine HM.out.mono ?_
  rintro e _ ⟨rfl, rfl⟩
  go_wp2
  go_ret
  exact ⟨rfl, rfl⟩
theorem of_L (h : Lc w0 w g gs n r made vs G V Ls) (hn0 : 0 < n) (hn1 : n ≤ 256) (k : ByteArray) (hks : k.size ≤ 3000) :
    Calls Try.prog 57 #[.pointer (some ⟨g, 0, none⟩), .string k] w (Drew (.int .i64 (shd n k)) w) := by
  have HO := Av.mk (of_calls gs gs n vs G k w h.sh hn0 hn1 (by omega))
  have a0 := h.blk.cell 0
  have lg := h.blk.lt
  simp at a0
  clear h
  go_enter Try.func57, Try.ntmps57
  go_wp2_with fail
  refine HO.out.mono ?_
  rintro e _ ⟨rfl, nd, rfl⟩
  go_wp2
  go_ret
  exact ⟨rfl, nd, rfl⟩
end

/-- What a closure that makes a list does, whatever world it is called in. -/
def MakesIs (w0 : World) (g gs n : Nat) (r made : Int) (vs : Value) (G : Nat → Nat) (V : Nat → Value) (Ls : Nat → PL) (m : Nat) (xs : List Value) (Q : World → World → Prop) (W : World) (e : Ending) (W' : World) : Prop :=
  ∃ A c, e = .returned (.slice A m c) ∧ W'.ownsRow W.heap.size 83 2 (.slice A m c) m xs ∧ Lc w0 W' g gs n r made vs G V Ls ∧ Q W W'

def TakeMiss (w0 : World) (g gs n : Nat) (r made : Int) (vs : Value) (G : Nat → Nat) (V : Nat → Value) (Ls : Nat → PL) (i : Nat) (m : Nat) (l2 : Option Addr → Nat → PL) (xs : List Value) (Q : World → World → Prop) (w : World) (e : Ending) (w' : World) : Prop :=
  ∃ A0 c0 A c V' W W', e = .returned (.slice A0 m c0) ∧ w'.ownsRow w.heap.size 83 2 (.slice A0 m c0) m xs ∧ w'.ownsRow W'.heap.size 83 2 (.slice A m c) m xs ∧ (∀ j, (Value.slice A0 m c0).ownBlock = some j → j < W'.heap.size) ∧ Lc w0 w' g gs n r made vs G V' (up Ls i (l2 A c)) ∧ (∀ j, j ≠ i → V' j = V j) ∧ KeepC g G V i w W ∧ Q W W' ∧ KeepC g G V i W' w'

set_option maxRecDepth 100000 in
set_option maxHeartbeats 4000000 in
theorem take_miss (w0 w : World) (g gs n : Nat) (r made : Int) (vs : Value) (G : Nat → Nat) (V : Nat → Value) (Ls : Nat → PL) (h : Lc w0 w g gs n r made vs G V Ls) (hn0 : 0 < n) (hn1 : n ≤ 256) (h0 : 0 ≤ made) (h1 : made ≤ 1000000)
    (k : ByteArray) (hks : k.size ≤ 3000) (i : Nat) (hi : shd n k = i) (x : Pay) (l' l'' : PL) (ok : Bool) (ep : Int) (hP : GetIs r (Ls i) k l' x ok) (hP1 : GetIs r l' k l'' x ok) (hm : ok = false ∨ x.ep < ep)
    (l2 : Option Addr → Nat → PL) (m : Nat) (hP2 : ∀ A c, ∃ gone is, PutIs r l'' k ⟨ep, A, m, c⟩ (l2 A c) gone is) (xs : List Value) (hone : ∀ u ∈ xs, u.oneCell' = true) (hmn : m ≤ 1000)
    (fn : Nat) (cap : Array Value) (Q : World → World → Prop) (hQ : ∀ W W', Q W W' → W.heap.size ≤ W'.heap.size)
    (hcf : ∀ W, (callFunc fn cap).run Try.prog W = .ok (.enter fn cap) W) (hF : ∀ W, KeepC g G V i w W → Lc w0 W g gs n r (made + 1) vs G V (up Ls i l') → Calls Try.prog fn cap W (MakesIs w0 g gs n r (made + 1) vs G V (up Ls i l') m xs Q W)) :
    Calls Try.prog 48 #[.pointer (some ⟨g, 0, none⟩), .int .i64 ep, .string k, .func (.func fn) #[] cap] w (TakeMiss w0 g gs n r (made + 1) vs G V Ls i m l2 xs Q w) := by
  have hil : i < n := by rw [← hi]; exact shd_lt hn0 k
  have HL := Av.mk (look_miss w0 w g gs n r made vs G V Ls h hn0 hn1 k hks i hi x l' ok ep hP (by rcases hm with h | h; exact .inl h; exact .inr (by omega)))
  have HF := Av.mk hF
  have HK := Av.mk (fun W (hW : Lc w0 W g gs n r (made + 1) vs G V (up Ls i l')) A0 c1 (b : Nat) (hrow : W.ownsRow b 83 2 (.slice A0 m c1) m xs) => keep_yes w0 W g gs n r (made + 1) vs G V (up Ls i l') hW hn0 hn1 k hks i hi x l'' ok ep (by rw [up_same]; exact hP1) (by rcases hm with h | h; exact .inl h; exact .inr (by omega)) l2 m hP2 b A0 c1 xs hrow hone hmn)
  have HQ := Av.mk hQ
  clear h hF hP hP1 hP2 hm hi hone hQ
  go_enter Try.func48, Try.ntmps48
  go_wp2_with fail
  refine HL.out.mono ?_
  rintro e w1 ⟨rfl, hd1, k1⟩
  have K1 := Av.mk k1
  have a1 := hd1.blk.cell 1
  have f1 := hd1.blk.frozen 1
  have lg := hd1.blk.lt
  simp at a1
  have HD2 := Av.mk (hd1.set (made + 1))
  have K2 := Av.mk (show KeepC g G V i w (w1.setCell ⟨g, 1, none⟩ (.int .i64 (made + 1))) from k1.setCell (p := ⟨g, 1, none⟩) (fun _ => .inl rfl) (.int .i64 (made + 1)))
  have hw : IntKind.i64.wrap (made + 1) = made + 1 := wrapI (by omega) (by omega)
  clear hd1 k1 HL
  go_wp2_with fail
  generalize w1.setCell ⟨g, 1, none⟩ (.int .i64 (made + 1)) = w2 at *
  refine (HF.out w2 K2.out HD2.out).mono ?_
  rintro e w3 ⟨A0, c0, rfl, hr3, hd3, hq3⟩
  have HR3 := Av.mk hr3
  have HD3 := Av.mk hd3
  have HQ3 := Av.mk hq3
  clear hr3 hd3 hq3 HD2 a1 f1 lg hw HF
  go_wp2_with fail
  refine (HK.out w3 HD3.out A0 c0 _ HR3.out).mono ?_
  rintro e w4 ⟨rfl, A, c, V', hr4, hd4, hv4, k4⟩
  have HR4 := Av.mk hr4
  have HD4 := Av.mk hd4
  have HV4 := Av.mk hv4
  have K4 := Av.mk k4
  have HR34 := Av.mk (HD3.out.row83 hil k4 HR3.out)
  clear hr4 hd4 hv4 k4
  rw [up_up] at HD4
  go_wp2
  go_ret
  exact ⟨A0, c0, A, c, V', w2, w3, rfl, row_mono HR34.out K2.out.size, HR4.out, fun j hj => row_lt HR3.out j hj.symm, HD4.out, HV4.out, K2.out, HQ3.out, K4.out⟩

set_option maxRecDepth 100000 in
set_option maxHeartbeats 4000000 in
theorem take_hit (w0 w : World) (g gs n : Nat) (r made : Int) (vs : Value) (G : Nat → Nat) (V : Nat → Value) (Ls : Nat → PL) (h : Lc w0 w g gs n r made vs G V Ls) (hn0 : 0 < n) (hn1 : n ≤ 256)
    (k : ByteArray) (hks : k.size ≤ 3000) (i : Nat) (hi : shd n k = i) (x : Pay) (l' : PL) (hP : GetIs r (Ls i) k l' x true) (b : Nat) (xs : List Value) (hrow : w.ownsRow b 83 2 (.slice x.A x.n x.c) x.n xs) (hone : ∀ u ∈ xs, u.oneCell' = true) (hxn : x.n ≤ 1000) (fv : Value) :
    Calls Try.prog 48 #[.pointer (some ⟨g, 0, none⟩), .int .i64 x.ep, .string k, fv] w (fun e w' => ∃ A c, e = .returned (.slice A x.n c) ∧ w'.ownsRow w.heap.size 83 2 (.slice A x.n c) x.n xs ∧ Lc w0 w' g gs n r made vs G V (up Ls i l') ∧ KeepC g G V i w w') := by
  have HL := Av.mk (look_hit w0 w g gs n r made vs G V Ls h hn0 hn1 k hks i hi x l' hP b xs hrow hone hxn)
  clear h hP hi hone hrow
  go_enter Try.func48, Try.ntmps48
  go_wp2_with fail
  refine HL.out.mono ?_
  rintro e w1 ⟨A, c, rfl, hr1, hd1, k1⟩
  have HR1 := Av.mk hr1
  have HD1 := Av.mk hd1
  have K1 := Av.mk k1
  clear hr1 hd1 k1 HL
  go_wp2
  go_ret
  exact ⟨A, c, rfl, HR1.out, HD1.out, K1.out⟩
theorem enter49 (a b c : Value) (W : World) : (callFunc 49 #[a, b, c]).run Try.prog W = .ok (.enter 49 #[a, b, c]) W := by
  have hb : Try.f49.body.isSome = true := by kernel_rfl
  have hn : (Try.f49.name == "runtime.NumGoroutine") = false := by kernel_rfl
  have hn2 : ¬ Try.f49.name = "runtime.NumGoroutine" := by simpa using hn
  have hb2 : ¬ Try.f49.body = none := fun h => by rw [h] at hb; cases hb
  simp only [callFunc, Try.func49, go_sem, hn, hn2, hb2, if_false]
  simp [hn2, hb2]
theorem enter56 (a : Value) (W : World) : (callFunc 56 #[a]).run Try.prog W = .ok (.enter 56 #[a]) W := by
  have hb : Try.f56.body.isSome = true := by kernel_rfl
  have hn : (Try.f56.name == "runtime.NumGoroutine") = false := by kernel_rfl
  have hn2 : ¬ Try.f56.name = "runtime.NumGoroutine" := by simpa using hn
  have hb2 : ¬ Try.f56.body = none := fun h => by rw [h] at hb; cases hb
  simp only [callFunc, Try.func56, go_sem, hn, hn2, hb2, if_false]
  simp [hn2, hb2]
theorem enter81 (W : World) : (callFunc 81 #[]).run Try.prog W = .ok (.enter 81 #[]) W := by
  have hb : Try.f81.body.isSome = true := by kernel_rfl
  have hn : (Try.f81.name == "runtime.NumGoroutine") = false := by kernel_rfl
  have hn2 : ¬ Try.f81.name = "runtime.NumGoroutine" := by simpa using hn
  have hb2 : ¬ Try.f81.body = none := fun h => by rw [h] at hb; cases hb
  simp only [callFunc, Try.func81, go_sem, hn, hn2, hb2, if_false]
  simp [hn2, hb2]
end Go.Proofs.Ytiopmehaghcpfaa.L
