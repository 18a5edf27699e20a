/- dcache.Cache: Look that misses. Printed by mac.py from DcE2.src. -/
import Derived.Test.YtiopmehaghcpfaaDcE
namespace Go.Proofs.Ytiopmehaghcpfaa.E
open Go.Proofs.Ytiopmehaghcpfaa
open Go.RowKit Go.Maps
set_option linter.unusedSimpArgs false
set_option linter.unusedVariables false

set_option maxRecDepth 100000 in
set_option maxHeartbeats 4000000 in
theorem look_miss (w0 w : World) (g gs n : Nat) (r hits misses : Int) (vs : Value) (G : Nat → Nat) (V : Nat → Value) (Ls : Nat → PL) (h : Dc w0 w g gs n r hits misses vs G V Ls) (hn0 : 0 < n) (hn1 : n ≤ 256) (h0 : 0 ≤ misses) (h1 : misses ≤ 1000000)
    (dir s k : ByteArray) (hd : dir.size ≤ 1000) (hs : s.size ≤ 1000) (hk : chd dir s = k) (hks : k.size ≤ 3000) (i : Nat) (hi : shd n k = i) (x : Pay) (l' : PL) (ok : Bool) (ep : Int) (hP : GetIs r (Ls i) k l' x ok) (hm : ok = false ∨ x.ep ≠ ep) :
    Calls Try.prog 42 #[.pointer (some ⟨g, 0, none⟩), .int .i64 ep, .string dir, .string s] w (LookMiss w0 g gs n r hits (misses + 1) vs G V (up Ls i l') i w) := by
  have hil : i < n := by rw [← hi]; exact shd_lt hn0 k
  have HG := Av.mk (dget_all (w0 := w0) (g := g) (gs := gs) (hits := hits) (misses := misses) (vs := vs) (G := G) (V := V) (k := k) hn0 hn1 (by omega) (by rw [hi]; exact hP))
  rw [hi] at HG
  have HC := fun W => child_calls dir s W (by omega) (by omega)
  rw [hk] at HC
  have HC := Av.mk HC
  have HD0S := Av.mk h.below.size
  have HD0 := Av.mk h
  have HM := Av.mk hm
  clear h hk hi hP hm
  go_enter Try.func42, Try.ntmps42
  go_wp2_with fail
  have X0 := Av.mk (Blk.new w 76 #[.int .i64 0, .bool false, .int .i64 0, .int .i64 0, .int .i64 0, .slice none 0 0, .string (⟨#[]⟩ : ByteArray)])
  have HK0 := Av.mk ((Keep.refl (fun _ => False) w).alloc (.cells #[.int .i64 0, .bool false, .int .i64 0, .int .i64 0, .int .i64 0, .slice none 0 0, .string (⟨#[]⟩ : ByteArray)] 76))
  have HD := Av.mk (HD0.out.grow (below_of_keep HK0.out))
  clear HD0
  generalize w.alloc (.cells #[.int .i64 0, .bool false, .int .i64 0, .int .i64 0, .int .i64 0, .slice none 0 0, .string (⟨#[]⟩ : ByteArray)] 76) = w1 at *
  have c0 := HD.out.blk.cell 0
  have lg := HD.out.blk.lt
  simp at c0
  have XA := Av.mk (Blk.new w1 76 #[.int .i64 0, .bool false, .int .i64 0, .int .i64 0, .int .i64 0, .slice none 0 0, .string (⟨#[]⟩ : ByteArray)])
  have KA := Av.mk ((Keep.refl (fun _ => False) w1).alloc (.cells #[.int .i64 0, .bool false, .int .i64 0, .int .i64 0, .int .i64 0, .slice none 0 0, .string (⟨#[]⟩ : ByteArray)] 76))
  have HDA := Av.mk (HD.out.grow (below_of_keep KA.out))
  have X0A := Av.mk (X0.out.keep KA.out (by simp))
  have hw1 : w.heap.size < w1.heap.size := X0.out.lt
  have HW1 := Av.mk hw1
  go_region_with (first | (go_at_call 76; refine (HC.out _).mono ?_; rintro e _ ⟨rfl, rfl⟩) | (go_at_call 75; refine (HG.out w1.drew HD.out.drew).mono ?_; rintro e w2 ⟨rfl, hd2, k2⟩; have HD2 := Av.mk hd2; have X2 := Av.mk (HD.out.drew.act hil k2 X0.out.drew); have HK2 := Av.mk k2; clear hd2 k2) | (go_at_call 75; refine (HG.out (w1.alloc (.cells #[.int .i64 0, .bool false, .int .i64 0, .int .i64 0, .int .i64 0, .slice none 0 0, .string (⟨#[]⟩ : ByteArray)] 76)).drew HDA.out.drew).mono ?_; rintro e w2 ⟨rfl, hd2, k2⟩; have HD2 := Av.mk hd2; have X2 := Av.mk (HDA.out.drew.act hil k2 X0A.out.drew); have Y2 := Av.mk (HDA.out.drew.act hil k2 XA.out.drew); have HK2 := Av.mk k2; have ly := Y2.out.lt; have y0 := Y2.out.cell 0; have y1 := Y2.out.cell 1; have y2 := Y2.out.cell 2; have y3 := Y2.out.cell 3; have y4 := Y2.out.cell 4; have y5 := Y2.out.cell 5; have y6 := Y2.out.cell 6; have f0 := Y2.out.frozen 0; have f1 := Y2.out.frozen 1; have f2 := Y2.out.frozen 2; have f3 := Y2.out.frozen 3; have f4 := Y2.out.frozen 4; have f5 := Y2.out.frozen 5; have f6 := Y2.out.frozen 6; simp at y0 y1 y2 y3 y4 y5 y6; clear hd2 k2))
  all_goals
    first
    | (have L := lay76 x Y2.out
       have B3 := Av.mk L.1
       have HD3 := Av.mk (HD2.out.far Y2.out (by have := HD.out.below.size; omega) L.2)
       have X3 := Av.mk (X2.out.keep L.2 (by have := HW1.out; omega))
       have K3 := Av.mk (show KeepC g G V i w _ from ((((HK0.out.mono (S' := fun k => k = g ∨ k = G i ∨ some k = (V i).ownBlock) (fun _ _ h => h.elim)).alloc (.cells #[.int .i64 0, .bool false, .int .i64 0, .int .i64 0, .int .i64 0, .slice none 0 0, .string (⟨#[]⟩ : ByteArray)] 76)).drew).andThen HK2.out (fun _ _ e => .inr e)).andThen L.2 (fun j hj e => by have := HW1.out; omega))
       clear L Y2 ly y0 y1 y2 y3 y4 y5 y6 f0 f1 f2 f3 f4 f5 f6
       generalize ((((((w2.setCell ⟨w1.heap.size, 0, none⟩ (.int .i64 x.ep)).setCell ⟨w1.heap.size, 1, none⟩ (.bool x.there)).setCell ⟨w1.heap.size, 2, none⟩ (.int .i64 x.kind)).setCell ⟨w1.heap.size, 3, none⟩ (.int .i64 x.lev)).setCell ⟨w1.heap.size, 4, none⟩ (.int .i64 x.ino)).setCell ⟨w1.heap.size, 5, none⟩ (.slice x.A x.n x.c)).setCell ⟨w1.heap.size, 6, none⟩ (.string x.tg) = w3 at *
       generalize w1.heap.size = g10 at *)
    | (have B3 := Av.mk (Blk.new w2 76 #[.int .i64 x.ep, .bool x.there, .int .i64 x.kind, .int .i64 x.lev, .int .i64 x.ino, .slice x.A x.n x.c, .string x.tg])
       have KZ := Av.mk ((Keep.refl (fun _ => False) w2).alloc (.cells #[.int .i64 x.ep, .bool x.there, .int .i64 x.kind, .int .i64 x.lev, .int .i64 x.ino, .slice x.A x.n x.c, .string x.tg] 76))
       have HD3 := Av.mk (HD2.out.grow (below_of_keep KZ.out))
       have X3 := Av.mk (X2.out.keep KZ.out (by simp))
       have K3 := Av.mk (show KeepC g G V i w _ from (((HK0.out.mono (S' := fun k => k = g ∨ k = G i ∨ some k = (V i).ownBlock) (fun _ _ h => h.elim)).drew).andThen HK2.out (fun _ _ e => .inr e)).alloc (.cells #[.int .i64 x.ep, .bool x.there, .int .i64 x.kind, .int .i64 x.lev, .int .i64 x.ino, .slice x.A x.n x.c, .string x.tg] 76))
       clear KZ
       generalize w2.alloc (.cells #[.int .i64 x.ep, .bool x.there, .int .i64 x.kind, .int .i64 x.lev, .int .i64 x.ino, .slice x.A x.n x.c, .string x.tg] 76) = w3 at *
       generalize w2.heap.size = g10 at *)
    clear HD2 X2 HK2 XA KA HDA X0A HD X0 HK0 c0 lg hw1 HG HC
    have d0 := B3.out.cell 0; have d1 := B3.out.cell 1; have d2 := B3.out.cell 2; have d3 := B3.out.cell 3; have d4 := B3.out.cell 4; have d5 := B3.out.cell 5; have d6 := B3.out.cell 6
    have lb := B3.out.lt
    have a0 := HD3.out.blk.cell 0
    have a1 := HD3.out.blk.cell 1
    have a2 := HD3.out.blk.cell 2
    have f2 := HD3.out.blk.frozen 2
    have lg := HD3.out.blk.lt
    have hw : IntKind.i64.wrap (misses + 1) = misses + 1 := wrapI (by omega) (by omega)
    have ne1 : g10 ≠ g := B3.out.ne_ HD3.out.blk (by decide)
    have ne2 : g ≠ g10 := ne1.symm
    have ne3 : w.heap.size ≠ g := X3.out.ne_ HD3.out.blk (by decide)
    have ne4 : g ≠ w.heap.size := ne3.symm
    simp at d0 d1 d2 d3 d4 d5 d6 a0 a1 a2
    have z0 := X3.out.cell 0; have z1 := X3.out.cell 1; have z2 := X3.out.cell 2; have z3 := X3.out.cell 3; have z4 := X3.out.cell 4; have z5 := X3.out.cell 5; have z6 := X3.out.cell 6
    have q0 := X3.out.frozen 0; have q1 := X3.out.frozen 1; have q2 := X3.out.frozen 2; have q3 := X3.out.frozen 3; have q4 := X3.out.frozen 4; have q5 := X3.out.frozen 5; have q6 := X3.out.frozen 6
    have lx3 := X3.out.lt
    simp at z0 z1 z2 z3 z4 z5 z6
    have HD4 := Av.mk (HD3.out.set 2 (.int .i64 (misses + 1)) (h2 := hits) (m2 := misses + 1) (by simp))
    have X4 := Av.mk (X3.out.keep (kset2 (u := .int .i64 (misses + 1)) (i := 2) (Keep.refl (fun k => k = g) w3)) ne3)
    have K4 := Av.mk (show KeepC g G V i w _ from K3.out.setCell (p := ⟨g, 2, none⟩) (fun _ => .inl rfl) (.int .i64 (misses + 1)))
    have L := Av.mk (lay76 (gx := w.heap.size) ⟨0, false, 0, 0, 0, none, 0, 0, ⟨#[]⟩⟩ X4.out)
    by_cases hok : ok = false
    · subst hok
      go_wp2
      refine bodyPost_ret (v := .tuple #[.agg #[.int .i64 0, .bool false, .int .i64 0, .int .i64 0, .int .i64 0, .slice none 0 0, .string (⟨#[]⟩ : ByteArray)], .bool false]) (by simp [results, Try.results42, go_sem, z0,z1,z2,z3,z4,z5,z6, lx3]) rfl ?_
      exact ⟨rfl, HD4.out.far X4.out HD0S.out L.out.2, K4.out.andThen L.out.2 (fun j hj e => absurd hj (by omega))⟩
    · have hok2 : ok = true := by cases ok <;> simp_all
      subst hok2
      have hme : ¬ x.ep = ep := by have := HM.out; simpa using this
      go_wp2
      refine bodyPost_ret (v := .tuple #[.agg #[.int .i64 0, .bool false, .int .i64 0, .int .i64 0, .int .i64 0, .slice none 0 0, .string (⟨#[]⟩ : ByteArray)], .bool false]) (by simp [results, Try.results42, go_sem, z0,z1,z2,z3,z4,z5,z6, lx3]) rfl ?_
      exact ⟨rfl, HD4.out.far X4.out HD0S.out L.out.2, K4.out.andThen L.out.2 (fun j hj e => absurd hj (by omega))⟩
end Go.Proofs.Ytiopmehaghcpfaa.E
