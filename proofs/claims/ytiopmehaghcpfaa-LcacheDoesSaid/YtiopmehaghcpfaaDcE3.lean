/- dcache.Cache: Keep, New, Many, Shard, Len, Most, Counts. Printed by mac.py from DcE3.src. -/
import Derived.Test.YtiopmehaghcpfaaDcE
namespace Go.Proofs.Ytiopmehaghcpfaa.E
open Go.Proofs.Ytiopmehaghcpfaa
open Go.RowKit Go.Maps
set_option linter.unusedSimpArgs false
set_option linter.unusedVariables false
attribute [local go_sem ↓] run_max_int run_min_int

theorem up_up {α : Type} (f : Nat → α) (i : Nat) (a b : α) : up (up f i a) i b = up f i b := by
  funext j
  unfold up
  split <;> rfl

def KeepNo (w0 : World) (g gs n : Nat) (r hits misses : Int) (vs : Value) (G : Nat → Nat) (V : Nat → Value) (Ls : Nat → PL) (i : Nat) (w : World) (e : Ending) (w' : World) : Prop :=
  e = .returned (.bool false) ∧ Dc w0 w' g gs n r hits misses vs G V Ls ∧ KeepC g G V i w w'

set_option maxRecDepth 100000 in
set_option maxHeartbeats 4000000 in
theorem keep_no (w0 w : World) (g gs n : Nat) (r hits misses : Int) (vs : Value) (G : Nat → Nat) (V : Nat → Value) (Ls : Nat → PL) (h : Dc w0 w g gs n r hits misses vs G V Ls) (hn0 : 0 < n) (hn1 : n ≤ 256)
    (dir s k : ByteArray) (hd : dir.size ≤ 1000) (hs : s.size ≤ 1000) (hk : chd dir s = k) (hks : k.size ≤ 3000) (i : Nat) (hi : shd n k = i) (x y : Pay) (l' : PL) (hP : GetIs r (Ls i) k l' x true) (hgt : y.ep < x.ep) :
    Calls Try.prog 45 #[.pointer (some ⟨g, 0, none⟩), .string dir, .string s, .agg #[.int .i64 y.ep, .bool y.there, .int .i64 y.kind, .int .i64 y.lev, .int .i64 y.ino, .slice y.A y.n y.c, .string y.tg]] w (KeepNo w0 g gs n r hits misses vs G V (up Ls i l') i w) := by
  have hil : i < n := by rw [← hi]; exact shd_lt hn0 k
  have HG := Av.mk (dget_all (w0 := w0) (g := g) (gs := gs) (hits := hits) (misses := misses) (vs := vs) (G := G) (V := V) (k := k) hn0 hn1 (by omega) (by rw [hi]; exact hP))
  rw [hi] at HG
  have HC := fun W => child_calls dir s W (by omega) (by omega)
  rw [hk] at HC
  have HC := Av.mk HC
  have HD0 := Av.mk h
  clear h hk hi hP
  go_enter Try.func45, Try.ntmps45
  go_wp2_with fail
  have X0 := Av.mk (Blk.new w 76 #[.int .i64 y.ep, .bool y.there, .int .i64 y.kind, .int .i64 y.lev, .int .i64 y.ino, .slice y.A y.n y.c, .string y.tg])
  have HK0 := Av.mk ((Keep.refl (fun _ => False) w).alloc (.cells #[.int .i64 y.ep, .bool y.there, .int .i64 y.kind, .int .i64 y.lev, .int .i64 y.ino, .slice y.A y.n y.c, .string y.tg] 76))
  have HD := Av.mk (HD0.out.grow (below_of_keep HK0.out))
  clear HD0
  generalize w.alloc (.cells #[.int .i64 y.ep, .bool y.there, .int .i64 y.kind, .int .i64 y.lev, .int .i64 y.ino, .slice y.A y.n y.c, .string y.tg] 76) = w1 at *
  refine (HC.out w1).mono ?_
  rintro e _ ⟨rfl, rfl⟩
  have c0 := HD.out.blk.cell 0
  have lg := HD.out.blk.lt
  simp at c0
  clear HC
  go_wp2_with fail
  refine (HG.out w1 HD.out).mono ?_
  rintro e w2 ⟨rfl, hd2, k2⟩
  have HD2 := Av.mk hd2
  have X2 := Av.mk (HD.out.act hil k2 X0.out)
  have K2 := Av.mk (show KeepC g G V i w w2 from (HK0.out.mono (S' := fun k => k = g ∨ k = G i ∨ some k = (V i).ownBlock) (fun _ _ h => h.elim)).andThen k2 (fun _ _ e => .inr e))
  clear hd2 k2 X0 HD HK0 c0 lg HG
  have y0 := X2.out.cell 0; have y1 := X2.out.cell 1; have y2 := X2.out.cell 2; have y3 := X2.out.cell 3; have y4 := X2.out.cell 4; have y5 := X2.out.cell 5; have y6 := X2.out.cell 6
  have ly := X2.out.lt
  simp at y0 y1 y2 y3 y4 y5 y6
  have HD3 := Av.mk (HD2.out.grow (below_alloc (Below.refl _ w2) (.cells #[.int .i64 x.ep, .bool x.there, .int .i64 x.kind, .int .i64 x.lev, .int .i64 x.ino, .slice x.A x.n x.c, .string x.tg] 76)))
  have K3 := Av.mk (show KeepC g G V i w _ from K2.out.alloc (.cells #[.int .i64 x.ep, .bool x.there, .int .i64 x.kind, .int .i64 x.lev, .int .i64 x.ino, .slice x.A x.n x.c, .string x.tg] 76))
  go_wp2
  go_ret
  exact ⟨rfl, HD3.out, K3.out⟩

def KeepYes (w0 : World) (g gs n : Nat) (r hits misses : Int) (vs : Value) (G : Nat → Nat) (V : Nat → Value) (Ls : Nat → PL) (i : Nat) (y : Pay) (l2 : Option Addr → Nat → PL) (xs : List Value) (w : World) (e : Ending) (w' : World) : Prop :=
  e = .returned (.bool true) ∧ ∃ A c V', w'.ownsRow w.heap.size 70 2 (.slice A y.n c) y.n xs ∧ Dc w0 w' g gs n r hits misses vs G V' (up Ls i (l2 A c)) ∧ (∀ j, j ≠ i → V' j = V j) ∧ KeepC g G V i w w'

set_option maxRecDepth 100000 in
set_option maxHeartbeats 4000000 in
theorem keep_yes (w0 w : World) (g gs n : Nat) (r hits misses : Int) (vs : Value) (G : Nat → Nat) (V : Nat → Value) (Ls : Nat → PL) (h : Dc w0 w g gs n r hits misses vs G V Ls) (hn0 : 0 < n) (hn1 : n ≤ 256)
    (dir s k : ByteArray) (hd : dir.size ≤ 1000) (hs : s.size ≤ 1000) (hk : chd dir s = k) (hks : k.size ≤ 3000) (i : Nat) (hi : shd n k = i) (x y : Pay) (l' : PL) (ok : Bool) (hP : GetIs r (Ls i) k l' x ok) (hgt : ok = false ∨ x.ep ≤ y.ep)
    (l2 : Option Addr → Nat → PL) (hP2 : ∀ A c, ∃ gone is, PutIs r l' k ⟨y.ep, y.there, y.kind, y.lev, y.ino, A, y.n, c, y.tg⟩ (l2 A c) gone is)
    (b : Nat) (xs : List Value) (hrow : w.ownsRow b 70 2 (.slice y.A y.n y.c) y.n xs) (hone : ∀ u ∈ xs, u.oneCell' = true) (hyn : y.n ≤ 1000) :
    Calls Try.prog 45 #[.pointer (some ⟨g, 0, none⟩), .string dir, .string s, .agg #[.int .i64 y.ep, .bool y.there, .int .i64 y.kind, .int .i64 y.lev, .int .i64 y.ino, .slice y.A y.n y.c, .string y.tg]] w (KeepYes w0 g gs n r hits misses vs G V Ls i y l2 xs w) := by
  have hil : i < n := by rw [← hi]; exact shd_lt hn0 k
  have HG := Av.mk (dget_all (w0 := w0) (g := g) (gs := gs) (hits := hits) (misses := misses) (vs := vs) (G := G) (V := V) (k := k) hn0 hn1 (by omega) (by rw [hi]; exact hP))
  have HPP : Av (∀ A c, ∃ gone is, ∀ W, Dc w0 W g gs n r hits misses vs G V (up Ls i l') → Calls Try.prog 80 #[.pointer (some ⟨gs, 0, none⟩), .string k, .agg #[.int .i64 y.ep, .bool y.there, .int .i64 y.kind, .int .i64 y.lev, .int .i64 y.ino, .slice A y.n c, .string y.tg]] W (Res (.tuple #[.string gone, .bool is]) (fun w' => (∃ V', Dc w0 w' g gs n r hits misses vs G V' (up (up Ls i l') i (l2 A c)) ∧ ∀ j, j ≠ i → V' j = V j) ∧ KeepI G V i W w'))) := ⟨fun A c => by
    obtain ⟨gone, is, hp⟩ := hP2 A c
    refine ⟨gone, is, fun W hW => ?_⟩
    have hp2 : PutIs r (up Ls i l' (shd n k)) k ⟨y.ep, y.there, y.kind, y.lev, y.ino, A, y.n, c, y.tg⟩ (l2 A c) gone is := by rw [hi, up_same]; exact hp
    have := dput_all hn0 hn1 (by omega) hp2 W hW
    rw [hi] at this
    exact this⟩
  rw [hi] at HG
  have HC := fun W => child_calls dir s W (by omega) (by omega)
  rw [hk] at HC
  have HC := Av.mk HC
  have HD0 := Av.mk h
  have HR0 := Av.mk hrow
  have HO1 := Av.mk hone
  have HM := Av.mk hgt
  clear h hk hi hP hP2 hrow hone hgt
  go_enter Try.func45, Try.ntmps45
  go_wp2_with fail
  have X0 := Av.mk (Blk.new w 76 #[.int .i64 y.ep, .bool y.there, .int .i64 y.kind, .int .i64 y.lev, .int .i64 y.ino, .slice y.A y.n y.c, .string y.tg])
  have HK0 := Av.mk ((Keep.refl (fun _ => False) w).alloc (.cells #[.int .i64 y.ep, .bool y.there, .int .i64 y.kind, .int .i64 y.lev, .int .i64 y.ino, .slice y.A y.n y.c, .string y.tg] 76))
  have HD := Av.mk (HD0.out.grow (below_of_keep HK0.out))
  have HR := Av.mk (row_keep HR0.out HK0.out (by simp))
  clear HD0 HR0
  generalize w.alloc (.cells #[.int .i64 y.ep, .bool y.there, .int .i64 y.kind, .int .i64 y.lev, .int .i64 y.ino, .slice y.A y.n y.c, .string y.tg] 76) = w1 at *
  refine (HC.out w1).mono ?_
  rintro e _ ⟨rfl, rfl⟩
  have c0 := HD.out.blk.cell 0
  have lg := HD.out.blk.lt
  simp at c0
  clear HC
  go_wp2_with fail
  refine (HG.out w1 HD.out).mono ?_
  rintro e w2 ⟨rfl, hd2, k2⟩
  have HD2 := Av.mk (hd2.grow (below_alloc (Below.refl _ w2) (.cells #[.int .i64 x.ep, .bool x.there, .int .i64 x.kind, .int .i64 x.lev, .int .i64 x.ino, .slice x.A x.n x.c, .string x.tg] 76)))
  have X2 := Av.mk ((HD.out.act hil k2 X0.out).alloc (.cells #[.int .i64 x.ep, .bool x.there, .int .i64 x.kind, .int .i64 x.lev, .int .i64 x.ino, .slice x.A x.n x.c, .string x.tg] 76))
  have Y2 := Av.mk (Blk.new w2 76 #[.int .i64 x.ep, .bool x.there, .int .i64 x.kind, .int .i64 x.lev, .int .i64 x.ino, .slice x.A x.n x.c, .string x.tg])
  have HR2 := Av.mk (row_keep (HD.out.act70 hil k2 HR.out) ((Keep.refl (fun _ => False) w2).alloc (.cells #[.int .i64 x.ep, .bool x.there, .int .i64 x.kind, .int .i64 x.lev, .int .i64 x.ino, .slice x.A x.n x.c, .string x.tg] 76)) (by simp))
  have K2 := Av.mk (show KeepC g G V i w _ from ((HK0.out.mono (S' := fun k => k = g ∨ k = G i ∨ some k = (V i).ownBlock) (fun _ _ h => h.elim)).andThen k2 (fun _ _ e => .inr e)).alloc (.cells #[.int .i64 x.ep, .bool x.there, .int .i64 x.kind, .int .i64 x.lev, .int .i64 x.ino, .slice x.A x.n x.c, .string x.tg] 76))
  clear hd2 k2 X0 HD HK0 c0 lg HG HR
  go_upto_region 3 with (fail)
  generalize w2.alloc (.cells #[.int .i64 x.ep, .bool x.there, .int .i64 x.kind, .int .i64 x.lev, .int .i64 x.ino, .slice x.A x.n x.c, .string x.tg] 76) = w3 at *
  generalize w2.heap.size = g10 at *
  have y0 := X2.out.cell 0; have y1 := X2.out.cell 1; have y2 := X2.out.cell 2; have y3 := X2.out.cell 3; have y4 := X2.out.cell 4; have y5 := X2.out.cell 5; have y6 := X2.out.cell 6
  have ly := X2.out.lt
  have z0 := Y2.out.cell 0; have z1 := Y2.out.cell 1; have z2 := Y2.out.cell 2; have z3 := Y2.out.cell 3; have z4 := Y2.out.cell 4; have z5 := Y2.out.cell 5; have z6 := Y2.out.cell 6
  have lz := Y2.out.lt
  have a0 := HD2.out.blk.cell 0
  have lg := HD2.out.blk.lt
  simp at y0 y1 y2 y3 y4 y5 y6 z0 z1 z2 z3 z4 z5 z6 a0
  have hcase : ok = false ∨ (ok = true ∧ ¬ y.ep < x.ep) := by
    rcases HM.out with h | h
    · exact .inl h
    · cases ok
      · exact .inl rfl
      · exact .inr ⟨rfl, by omega⟩
  clear HM
  rcases hcase with rfl | ⟨rfl, hle⟩
  all_goals
    go_wp2_with fail
    go_region_with (first | (go_at_call 77; refine (copied_calls y b xs w3.drew HR2.out HO1.out hyn).mono ?_; rintro e w4 ⟨A, c, rfl, hr4, hb4⟩; have HR4 := Av.mk hr4; have HD4 := Av.mk (HD2.out.drew.grow hb4); have a4 := HD4.out.blk.cell 0; have lg4 := HD4.out.blk.lt; have K4 := Av.mk (show KeepC g G V i w w4 from K2.out.drew.trans (Keep.of_below hb4)); have hsz := K2.out.size; simp at a4; clear hr4 hb4; obtain ⟨gone, is, hput⟩ := HPP.out A c; have HPW := Av.mk (hput w4 HD4.out); clear hput) | (go_at_call 80; refine HPW.out.mono ?_; rintro e w5 ⟨rfl, ⟨V5, hd5, hv5⟩, k5⟩; have HR5 := Av.mk (HD4.out.act70 hil k5 HR4.out); have HD5 := Av.mk hd5; have HV5 := Av.mk hv5; have K5 := Av.mk (show KeepC g G V i w w5 from K4.out.andThen k5 (fun _ _ e => .inr e)); clear hd5 hv5 k5))
    all_goals
      rw [up_up] at HD5
      go_wp2
      go_ret
      exact ⟨rfl, A, c, V5, row_mono HR5.out hsz, HD5.out, HV5.out, K5.out⟩

theorem new_D (many room : Int) (n : Nat) (hn : mn (mx many 1) 256 = (n : Int)) (hn1 : 1 ≤ n) (hn2 : n ≤ 256) (w0 w : World) (hb : Below w0.heap.size w0 w) :
    Calls Try.prog 38 #[.int .i64 many, .int .i64 room] w (fun e w' => ∃ g vs G V, e = .returned (.pointer (some ⟨g, 0, none⟩)) ∧ w.heap.size ≤ g ∧ Dc w0 w' g w.heap.size n (mx room 1) 0 0 vs G V (fun _ => []) ∧ Below w.heap.size w w') := by
  have HB := Av.mk hb
  have HS := Av.mk (snew_calls many room n hn hn1 hn2 w0.heap.size 0 (fun _ => 0) (fun _ => 0) (fun _ => .slice none 0 0) (fun _ => []) w (Fam.nil w _ _ _ _ _) hb.size)
  clear hb
  go_enter Try.func38, Try.ntmps38
  go_wp2_with fail
  refine HS.out.mono ?_
  rintro e w1 ⟨v, G, V, rfl, hb1, hs, hf, _⟩
  have HB1 := Av.mk hb1
  have HS1 := Av.mk (hs.congr (G' := G) (fun j _ => by simp))
  have HF1 := Av.mk (show Fam w1 w0.heap.size n (fun _ => mx room 1) G V (fun _ => []) from (hf.congr (m := 0 + n) (fun i _ => ⟨by unfold joinF; rw [if_neg (by omega)], rfl, rfl, by unfold joinF; rw [if_neg (by omega)]⟩) |> fun h => by rw [Nat.zero_add] at h; exact h))
  clear hb1 hs hf
  go_wp2
  go_ret
  have hb2 := below_alloc (Below.refl _ w1) (.cells #[.pointer (some ⟨w.heap.size, 0, none⟩), .int .i64 0, .int .i64 0] 137)
  exact ⟨w1.heap.size, v, G, V, rfl, HB1.out.size, ⟨Blk.new w1 137 #[.pointer (some ⟨w.heap.size, 0, none⟩), .int .i64 0, .int .i64 0], HS1.out.below hb2, HF1.out.below hb2, below_then (below_then HB.out HB.out.size HB1.out) (Nat.le_trans HB.out.size HB1.out.size) hb2, Nat.le_trans HB.out.size HB1.out.size⟩, below_then HB1.out HB1.out.size hb2⟩

section
variable {w0 w : World} {g gs n : Nat} {r hits misses : Int} {vs : Value} {G : Nat → Nat} {V : Nat → Value} {Ls : Nat → PL}
theorem many_D (h : Dc w0 w g gs n r hits misses vs G V Ls) : Calls Try.prog 40 #[.pointer (some ⟨g, 0, none⟩)] w (Same (.int .i64 n) w) := by
  have HM := Av.mk (many_calls gs gs n vs G w ⟨h.sh.blk, h.sh.row⟩)
  have a0 := h.blk.cell 0
  have lg := h.blk.lt
  simp at a0
  clear h
  go_enter Try.func40, Try.ntmps40
  go_wp2_with fail
  refine HM.out.mono ?_
  rintro e _ ⟨rfl, rfl⟩
  go_wp2
  go_ret
  exact ⟨rfl, rfl⟩
theorem most_D (h : Dc w0 w g gs n r hits misses vs G V Ls) (hn : n ≤ 256) : Calls Try.prog 64 #[.pointer (some ⟨g, 0, none⟩)] w (Same (.int .i64 (most (fun j => (Ls j).length) n)) w) := by
  have hm := most_calls gs gs n vs 0 _ _ _ G V Ls w (h.sh.congr (fun j _ => by simp)) h.fam (by omega) hn
  have e : (fun j => (Ls (0 + j)).length) = fun j => (Ls j).length := by funext j; rw [Nat.zero_add]
  rw [e] at hm
  have HM := Av.mk hm
  have a0 := h.blk.cell 0
  have lg := h.blk.lt
  simp at a0
  clear h hm
  go_enter Try.func64, Try.ntmps64
  go_wp2_with fail
  refine HM.out.mono ?_
  rintro e _ ⟨rfl, rfl⟩
  go_wp2
  go_ret
  exact ⟨rfl, rfl⟩
theorem len_D (h : Dc w0 w g gs n r hits misses vs G V Ls) (j : Nat) (hj : j < n) : Calls Try.prog 63 #[.pointer (some ⟨g, 0, none⟩), .int .i64 j] w (Same (.int .i64 (Ls j).length) w) := by
  have hm := slen_calls gs gs n vs 0 _ _ _ G V Ls j w (h.sh.congr (fun j _ => by simp)) h.fam (by omega) hj
  rw [Nat.zero_add] at hm
  have HM := Av.mk hm
  have a0 := h.blk.cell 0
  have lg := h.blk.lt
  simp at a0
  clear h hm
  go_enter Try.func63, Try.ntmps63
  go_wp2_with fail
  refine HM.out.mono ?_
  rintro e _ ⟨rfl, rfl⟩
  go_wp2
  go_ret
  exact ⟨rfl, rfl⟩
theorem counts_D (h : Dc w0 w g gs n r hits misses vs G V Ls) : Calls Try.prog 65 #[.pointer (some ⟨g, 0, none⟩)] w (Drew (.tuple #[.int .i64 hits, .int .i64 misses]) w) := by
  have a0 := h.blk.cell 1
  have a1 := h.blk.cell 2
  have lg := h.blk.lt
  simp at a0 a1
  clear h
  go_enter Try.func65, Try.ntmps65
  go_wp2_with fail
  go_quiet (fail)
  go_wp2
  go_ret2
  exact ⟨rfl, nq, rfl⟩
theorem shard_D (h : Dc w0 w g gs n r hits misses vs G V Ls) (hn0 : 0 < n) (hn1 : n ≤ 256) (dir s k : ByteArray) (hd : dir.size ≤ 1000) (hs : s.size ≤ 1000) (hk : chd dir s = k) (hks : k.size ≤ 3000) :
    Calls Try.prog 62 #[.pointer (some ⟨g, 0, none⟩), .string dir, .string s] w (Drew (.int .i64 (shd n k)) w) := by
  have HC := Av.mk (fun W => child_calls dir s W (by omega) (by omega))
  rw [hk] at HC
  have HO := Av.mk (fun W (h : Shb W gs gs n vs G) => (of_calls gs gs n vs G k W h hn0 hn1 (by omega)))
  have H := Av.mk h
  have a0 := h.blk.cell 0
  have lg := h.blk.lt
  simp at a0
  clear h hk
  go_enter Try.func62, Try.ntmps62
  go_wp2_with fail
  go_region_with (first | (go_at_call 76; refine (HC.out _).mono ?_; rintro e _ ⟨rfl, rfl⟩) | (go_at_call 86; refine (HO.out w.drew ⟨H.out.sh.blk, H.out.sh.row⟩).mono ?_; rintro e _ ⟨rfl, nd, rfl⟩))
  all_goals
    go_wp2
    go_ret
    exact ⟨rfl, 1 + nd, rfl⟩
end
end Go.Proofs.Ytiopmehaghcpfaa.E
