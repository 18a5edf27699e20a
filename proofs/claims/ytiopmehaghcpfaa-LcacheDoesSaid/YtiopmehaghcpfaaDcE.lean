/- dcache.Cache: its contracts. Printed by mac.py from DcE.src. -/
import Derived.Test.YtiopmehaghcpfaaFamE
import Derived.Test.YtiopmehaghcpfaaCp
namespace Go.Proofs.Ytiopmehaghcpfaa.E
open Go.Proofs.Ytiopmehaghcpfaa
open Go.RowKit Go.Maps
set_option linter.unusedSimpArgs false
set_option linter.unusedVariables false
attribute [local go_sem ↓] run_max_int run_min_int

theorem kset3 {B : Nat} {a w : World} {g i : Nat} {u : Value} (h : Keep (fun k => k < B) a w) (hg : g < B) : Keep (fun k => k < B) a (w.setCell ⟨g, i, none⟩ u) := h.setCell (p := ⟨g, i, none⟩) (fun _ => hg) u
theorem below_of_keep {w w' : World} (h : Keep (fun _ => False) w w') : Below w.heap.size w w' := ⟨h.os, h.tape, h.output, h.size, fun k hk => h.block k hk (by simp)⟩
theorem info70 : ∃ i, Try.prog.info? 70 = some i ∧ i.zero = some (.agg #[.int .i64 0, .int .i64 0]) ∧ i.size = 2 ∧ i.bytes = 16 := by
  have h : (Try.prog.info? 70).map (fun i => (i.zero, i.size, i.bytes)) = some (some (.agg #[.int .i64 0, .int .i64 0]), 2, 16) := by kernel_rfl
  obtain ⟨i, hi, e⟩ := Option.map_eq_some_iff.1 h
  simp only [Prod.mk.injEq] at e
  exact ⟨i, hi, e.1, e.2.1, e.2.2⟩

/-- What 'copied' answers. -/
def CopE (x : Pay) (xs : List Value) (w : World) (e : Ending) (w' : World) : Prop :=
  ∃ A c, e = .returned (.agg #[.int .i64 x.ep, .bool x.there, .int .i64 x.kind, .int .i64 x.lev, .int .i64 x.ino, .slice A x.n c, .string x.tg]) ∧ w'.ownsRow w.heap.size 70 2 (.slice A x.n c) x.n xs ∧ Below w.heap.size w w'

set_option maxRecDepth 100000 in
set_option maxHeartbeats 4000000 in
theorem copied_calls (x : Pay) (b : Nat) (xs : List Value) (w : World) (h : w.ownsRow b 70 2 (.slice x.A x.n x.c) x.n xs) (h1 : ∀ u ∈ xs, u.oneCell' = true) (hn : x.n ≤ 1000) :
    Calls Try.prog 77 #[.agg #[.int .i64 x.ep, .bool x.there, .int .i64 x.kind, .int .i64 x.lev, .int .i64 x.ino, .slice x.A x.n x.c, .string x.tg]] w (CopE x xs w) := by
  obtain ⟨i0, hi0⟩ := info70
  have I := Av.mk hi0
  have HR := Av.mk h
  have H1 := Av.mk h1
  clear hi0 h h1
  go_enter Try.func77, Try.ntmps77
  go_upto_region 1 with (fail)
  have X1 := Av.mk ((Blk.new w 76 #[.int .i64 x.ep, .bool x.there, .int .i64 x.kind, .int .i64 x.lev, .int .i64 x.ino, .slice x.A x.n x.c, .string x.tg]).alloc (.cells #[.int .i64 0, .bool false, .int .i64 0, .int .i64 0, .int .i64 0, .slice none 0 0, .string (⟨#[]⟩ : ByteArray)] 76))
  have X2 := Av.mk (Blk.new (w.alloc (.cells #[.int .i64 x.ep, .bool x.there, .int .i64 x.kind, .int .i64 x.lev, .int .i64 x.ino, .slice x.A x.n x.c, .string x.tg] 76)) 76 #[.int .i64 0, .bool false, .int .i64 0, .int .i64 0, .int .i64 0, .slice none 0 0, .string (⟨#[]⟩ : ByteArray)])
  have es : (w.alloc (.cells #[.int .i64 x.ep, .bool x.there, .int .i64 x.kind, .int .i64 x.lev, .int .i64 x.ino, .slice x.A x.n x.c, .string x.tg] 76)).heap.size = w.heap.size + 1 := by simp
  rw [es] at X2
  have HK := Av.mk (((Keep.refl (fun _ => False) w).alloc (.cells #[.int .i64 x.ep, .bool x.there, .int .i64 x.kind, .int .i64 x.lev, .int .i64 x.ino, .slice x.A x.n x.c, .string x.tg] 76)).alloc (.cells #[.int .i64 0, .bool false, .int .i64 0, .int .i64 0, .int .i64 0, .slice none 0 0, .string (⟨#[]⟩ : ByteArray)] 76))
  have HR2 := Av.mk (row_keep HR.out HK.out (by simp))
  have hsz : ((w.alloc (.cells #[.int .i64 x.ep, .bool x.there, .int .i64 x.kind, .int .i64 x.lev, .int .i64 x.ino, .slice x.A x.n x.c, .string x.tg] 76)).alloc (.cells #[.int .i64 0, .bool false, .int .i64 0, .int .i64 0, .int .i64 0, .slice none 0 0, .string (⟨#[]⟩ : ByteArray)] 76)).heap.size = w.heap.size + 2 := by simp
  have HS := Av.mk hsz
  clear es hsz HR
  generalize (w.alloc (.cells #[.int .i64 x.ep, .bool x.there, .int .i64 x.kind, .int .i64 x.lev, .int .i64 x.ino, .slice x.A x.n x.c, .string x.tg] 76)).alloc (.cells #[.int .i64 0, .bool false, .int .i64 0, .int .i64 0, .int .i64 0, .slice none 0 0, .string (⟨#[]⟩ : ByteArray)] 76) = w2 at *
  have d0 := X1.out.cell 0; have d1 := X1.out.cell 1; have d2 := X1.out.cell 2; have d3 := X1.out.cell 3; have d4 := X1.out.cell 4; have d5 := X1.out.cell 5; have d6 := X1.out.cell 6; simp at d0 d1 d2 d3 d4 d5 d6
  have l1 := X1.out.lt
  have l2 := X2.out.lt
  go_wp2_with (first | (at_builtin; refine wpList_clone rfl (.tmp 5) 72 rfl 70 i0 (.agg #[.int .i64 0, .int .i64 0]) 2 16 Try.underlying72 I.out.1 I.out.2.1 I.out.2.2.1 I.out.2.2.2 rfl (by decide) b _ x.n xs rfl HR2.out H1.out (by unfold maxLen; omega) (by omega) ?_; intro A c w3 hown hb3; have HO := Av.mk hown; have HB := Av.mk hb3; have Y1 := Av.mk (X1.out.keep (Keep.of_below (S := fun _ => False) hb3) (by simp)); have Y2 := Av.mk (X2.out.keep (Keep.of_below (S := fun _ => False) hb3) (by simp)); have l3 := Y1.out.lt; have l4 := Y2.out.lt; have y0 := Y1.out.cell 0; have y1 := Y1.out.cell 1; have y2 := Y1.out.cell 2; have y3 := Y1.out.cell 3; have y4 := Y1.out.cell 4; have y5 := Y1.out.cell 5; have y6 := Y1.out.cell 6; have f0 := Y1.out.frozen 0; have f1 := Y1.out.frozen 1; have f2 := Y1.out.frozen 2; have f3 := Y1.out.frozen 3; have f4 := Y1.out.frozen 4; have f5 := Y1.out.frozen 5; have f6 := Y1.out.frozen 6; have z0 := Y2.out.cell 0; have z1 := Y2.out.cell 1; have z2 := Y2.out.cell 2; have z3 := Y2.out.cell 3; have z4 := Y2.out.cell 4; have z5 := Y2.out.cell 5; have z6 := Y2.out.cell 6; have q0 := Y2.out.frozen 0; have q1 := Y2.out.frozen 1; have q2 := Y2.out.frozen 2; have q3 := Y2.out.frozen 3; have q4 := Y2.out.frozen 4; have q5 := Y2.out.frozen 5; have q6 := Y2.out.frozen 6; simp at y0 y1 y2 y3 y4 y5 y6 z0 z1 z2 z3 z4 z5 z6; clear hown hb3 d0 d1 d2 d3 d4 d5 d6 l1 l2))
  refine bodyPost_ret (v := .agg #[.int .i64 x.ep, .bool x.there, .int .i64 x.kind, .int .i64 x.lev, .int .i64 x.ino, .slice A x.n c, .string x.tg]) (by simp [results, Try.results77, go_sem, z0,z1,z2,z3,z4,z5,z6, l4]) rfl ?_
  refine ⟨A, c, rfl, ?_, ?_⟩
  · refine row_mono (row_keep (S := fun k => k < w2.heap.size) HO.out ?_ (fun k hk hlt => ?_)) (by have := HS.out; omega)
    · repeat (with_reducible first | apply Keep.alloc | refine kset3 ?_ (by have := HS.out; omega))
      exact Keep.refl _ _
    · have := row_base HO.out k hk.symm
      omega
  · refine below_of_keep ?_
    repeat (with_reducible first | apply Keep.alloc | refine kset ?_ (by omega))
    exact HK.out.trans (Keep.of_below HB.out)

/-- A cache of entries: its block, its shards, their caches. -/
structure Dc (w0 w : World) (g gs n : Nat) (r hits misses : Int) (vs : Value) (G : Nat → Nat) (V : Nat → Value) (Ls : Nat → PL) : Prop where
  blk : Blk w g 137 #[.pointer (some ⟨gs, 0, none⟩), .int .i64 hits, .int .i64 misses]
  sh : Shb w gs gs n vs G
  fam : Fam w w0.heap.size n (fun _ => r) G V Ls
  below : Below w0.heap.size w0 w
  hg : w0.heap.size ≤ g
def KeepI (G : Nat → Nat) (V : Nat → Value) (i : Nat) : World → World → Prop := Keep (fun k => k = G i ∨ some k = (V i).ownBlock)
def KeepC (g : Nat) (G : Nat → Nat) (V : Nat → Value) (i : Nat) : World → World → Prop := Keep (fun k => k = g ∨ k = G i ∨ some k = (V i).ownBlock)
section
variable {w0 w w' : World} {g gs n : Nat} {r hits misses : Int} {vs : Value} {G : Nat → Nat} {V : Nat → Value} {Ls : Nat → PL} {l' : PL} {k : ByteArray} {x : Pay} {ok : Bool} {i : Nat} {res : Value} {e : Ending}
theorem Dc.drewN (h : Dc w0 w g gs n r hits misses vs G V Ls) (d : Nat) : Dc w0 (w.drewN d) g gs n r hits misses vs G V Ls :=
  ⟨h.blk, ⟨h.sh.blk, h.sh.row⟩, h.fam.keep ((Keep.refl (fun _ => False) w).drewN d) (by simp) (by simp), below_drewN h.below _, h.hg⟩
theorem Dc.drew (h : Dc w0 w g gs n r hits misses vs G V Ls) : Dc w0 w.drew g gs n r hits misses vs G V Ls := h.drewN 1
theorem Dc.grow (h : Dc w0 w g gs n r hits misses vs G V Ls) (hb : Below w.heap.size w w') : Dc w0 w' g gs n r hits misses vs G V Ls :=
  ⟨h.blk.keep (Keep.of_below (S := fun _ => False) hb) (by simp), h.sh.below hb, h.fam.below hb, below_then h.below h.below.size hb, h.hg⟩
theorem Dc.act (h : Dc w0 w g gs n r hits misses vs G V Ls) {gx : Nat} {cs : Array Value} (hi : i < n) (hk : KeepI G V i w w') (hx : Blk w gx 76 cs) : Blk w' gx 76 cs :=
  Blk.by_fam hx (by decide) (by decide) h.fam hi hk
theorem Dc.act70 (h : Dc w0 w g gs n r hits misses vs G V Ls) {b m : Nat} {v : Value} {xs : List Value} (hi : i < n) (hk : KeepI G V i w w') (hx : w.ownsRow b 70 2 v m xs) : w'.ownsRow b 70 2 v m xs :=
  row_by_fam hx (by decide) (by decide) h.fam hi hk
theorem Dc.got (h : Dc w0 w g gs n r hits misses vs G V Ls) (hi : i < n) (hp : GetS w0.heap.size (G i) r (V i) l' res w e w') :
    e = .returned res ∧ Dc w0 w' g gs n r hits misses vs G V (up Ls i l') ∧ KeepI G V i w w' := by
  obtain ⟨he, hF, hk⟩ := after_get h.fam hi hp
  exact ⟨he, ⟨Blk.by_fam h.blk (by decide) (by decide) h.fam hi hk, h.sh.by_fam h.fam hi hk, hF, below_fam h.fam hi h.below h.below.size (Nat.le_refl _) hk, h.hg⟩, hk⟩
theorem Dc.putt (h : Dc w0 w g gs n r hits misses vs G V Ls) (hi : i < n) (hp : PutS w0.heap.size (G i) r (V i) l' res w e w') :
    e = .returned res ∧ (∃ V', Dc w0 w' g gs n r hits misses vs G V' (up Ls i l') ∧ ∀ j, j ≠ i → V' j = V j) ∧ KeepI G V i w w' := by
  obtain ⟨he, v', hF, hk⟩ := after_put h.fam hi hp
  exact ⟨he, ⟨_, ⟨Blk.by_fam h.blk (by decide) (by decide) h.fam hi hk, h.sh.by_fam h.fam hi hk, hF, below_fam h.fam hi h.below h.below.size (Nat.le_refl _) hk, h.hg⟩, fun j hj => up_other _ _ _ hj⟩, hk⟩
/-- The counts change. -/
theorem Dc.set (h : Dc w0 w g gs n r hits misses vs G V Ls) (j : Nat) (u : Value) {h2 m2 : Int} (e : (#[.pointer (some ⟨gs, 0, none⟩), .int .i64 hits, .int .i64 misses] : Array Value).setIfInBounds j u = #[.pointer (some ⟨gs, 0, none⟩), .int .i64 h2, .int .i64 m2]) :
    Dc w0 (w.setCell ⟨g, j, none⟩ u) g gs n r h2 m2 vs G V Ls := by
  have hk : Keep (fun k => k = g) w (w.setCell ⟨g, j, none⟩ u) := kset2 (Keep.refl _ w)
  refine ⟨by rw [← e]; exact h.blk.set_ j u, h.sh.keep hk (h.blk.ne_ h.sh.blk (by decide)).symm (fun k hk' e' => row_ne h.sh.row h.blk (by decide) (by rw [hk', e'])),
    h.fam.keep hk (fun i hi => (h.blk.ne_ (h.fam.lru i hi).blk (by decide)).symm) (fun i k hi hk' e' => row_ne (h.fam.lru i hi).row h.blk (by decide) (by rw [hk', e'])), below_keep h.below h.below.size hk (fun k e' => by rw [e']; exact h.hg), h.hg⟩
theorem Dc.far (h : Dc w0 w g gs n r hits misses vs G V Ls) {gx : Nat} {cs : Array Value} (hx : Blk w gx 76 cs) (hgx : w0.heap.size ≤ gx) (hk : Keep (fun k => k = gx) w w') : Dc w0 w' g gs n r hits misses vs G V Ls :=
  ⟨h.blk.keep hk (h.blk.ne_ hx (by decide)), h.sh.keep hk (h.sh.blk.ne_ hx (by decide)) (fun k hk' e' => row_ne h.sh.row hx (by decide) (by rw [hk', e'])),
    h.fam.keep hk (fun i hi => (h.fam.lru i hi).blk.ne_ hx (by decide)) (fun i k hi hk' e' => row_ne (h.fam.lru i hi).row hx (by decide) (by rw [hk', e'])), below_keep h.below h.below.size hk (fun k e' => by rw [e']; exact hgx), h.hg⟩
/-- An entry laid in a block. -/
theorem lay76 {w : World} {gx : Nat} (x : Pay) (hx : Blk w gx 76 #[.int .i64 0, .bool false, .int .i64 0, .int .i64 0, .int .i64 0, .slice none 0 0, .string (⟨#[]⟩ : ByteArray)]) : Blk (((((((w.setCell ⟨gx, 0, none⟩ (.int .i64 x.ep)).setCell ⟨gx, 1, none⟩ (.bool x.there)).setCell ⟨gx, 2, none⟩ (.int .i64 x.kind)).setCell ⟨gx, 3, none⟩ (.int .i64 x.lev)).setCell ⟨gx, 4, none⟩ (.int .i64 x.ino)).setCell ⟨gx, 5, none⟩ (.slice x.A x.n x.c)).setCell ⟨gx, 6, none⟩ (.string x.tg)) gx 76 #[.int .i64 x.ep, .bool x.there, .int .i64 x.kind, .int .i64 x.lev, .int .i64 x.ino, .slice x.A x.n x.c, .string x.tg] ∧ Keep (fun k => k = gx) w (((((((w.setCell ⟨gx, 0, none⟩ (.int .i64 x.ep)).setCell ⟨gx, 1, none⟩ (.bool x.there)).setCell ⟨gx, 2, none⟩ (.int .i64 x.kind)).setCell ⟨gx, 3, none⟩ (.int .i64 x.lev)).setCell ⟨gx, 4, none⟩ (.int .i64 x.ino)).setCell ⟨gx, 5, none⟩ (.slice x.A x.n x.c)).setCell ⟨gx, 6, none⟩ (.string x.tg)) := by
  refine ⟨?_, ?_⟩
  · simpa using ((((((hx.set_ 0 (.int .i64 x.ep)).set_ 1 (.bool x.there)).set_ 2 (.int .i64 x.kind)).set_ 3 (.int .i64 x.lev)).set_ 4 (.int .i64 x.ino)).set_ 5 (.slice x.A x.n x.c)).set_ 6 (.string x.tg)
  · repeat (with_reducible first | refine kset2 ?_)
    exact Keep.refl _ _
theorem dget_all (hn0 : 0 < n) (hn1 : n ≤ 256) (hk : k.size ≤ 9000000000000000000) (hP : GetIs r (Ls (shd n k)) k l' x ok) (W : World) (h : Dc w0 W g gs n r hits misses vs G V Ls) :
    Calls Try.prog 75 #[.pointer (some ⟨gs, 0, none⟩), .string k] W (Res (.tuple #[.agg #[.int .i64 x.ep, .bool x.there, .int .i64 x.kind, .int .i64 x.lev, .int .i64 x.ino, .slice x.A x.n x.c, .string x.tg], .bool ok]) (fun w' => Dc w0 w' g gs n r hits misses vs G V (up Ls (shd n k) l') ∧ KeepI G V (shd n k) W w')) :=
  (sget_calls gs gs n vs _ k W h.sh hn0 hn1 hk w0.heap.size _ r _ _ l' x ok (h.fam.lru _ (shd_lt hn0 k)) rfl hP).mono fun _ _ hp => ⟨(h.got (shd_lt hn0 k) hp).1, (h.got (shd_lt hn0 k) hp).2.1, (h.got (shd_lt hn0 k) hp).2.2⟩
theorem dput_all {gone : ByteArray} {is : Bool} (hn0 : 0 < n) (hn1 : n ≤ 256) (hk : k.size ≤ 9000000000000000000) (hP : PutIs r (Ls (shd n k)) k x l' gone is) (W : World) (h : Dc w0 W g gs n r hits misses vs G V Ls) :
    Calls Try.prog 80 #[.pointer (some ⟨gs, 0, none⟩), .string k, .agg #[.int .i64 x.ep, .bool x.there, .int .i64 x.kind, .int .i64 x.lev, .int .i64 x.ino, .slice x.A x.n x.c, .string x.tg]] W (Res (.tuple #[.string gone, .bool is]) (fun w' => (∃ V', Dc w0 w' g gs n r hits misses vs G V' (up Ls (shd n k) l') ∧ ∀ j, j ≠ shd n k → V' j = V j) ∧ KeepI G V (shd n k) W w')) :=
  (sput_calls gs gs n vs _ k x W h.sh hn0 hn1 hk w0.heap.size _ r _ _ l' gone is (h.fam.lru _ (shd_lt hn0 k)) (h.fam.ge _ (shd_lt hn0 k)) rfl hP).mono fun _ _ hp => ⟨(h.putt (shd_lt hn0 k) hp).1, (h.putt (shd_lt hn0 k) hp).2.1, (h.putt (shd_lt hn0 k) hp).2.2⟩
end

def LookHit (w0 : World) (g gs n : Nat) (r hits misses : Int) (vs : Value) (G : Nat → Nat) (V : Nat → Value) (Ls : Nat → PL) (i : Nat) (x : Pay) (xs : List Value) (w : World) (e : Ending) (w' : World) : Prop :=
  ∃ A c, e = .returned (.tuple #[.agg #[.int .i64 x.ep, .bool x.there, .int .i64 x.kind, .int .i64 x.lev, .int .i64 x.ino, .slice A x.n c, .string x.tg], .bool true]) ∧ w'.ownsRow w.heap.size 70 2 (.slice A x.n c) x.n xs ∧ Dc w0 w' g gs n r hits misses vs G V Ls ∧ KeepC g G V i w w'

set_option maxRecDepth 100000 in
set_option maxHeartbeats 4000000 in
theorem look_hit (w0 w : World) (g gs n : Nat) (r hits misses : Int) (vs : Value) (G : Nat → Nat) (V : Nat → Value) (Ls : Nat → PL) (h : Dc w0 w g gs n r hits misses vs G V Ls) (hn0 : 0 < n) (hn1 : n ≤ 256) (h0 : 0 ≤ hits) (h1 : hits ≤ 1000000)
    (dir s k : ByteArray) (hd : dir.size ≤ 1000) (hs : s.size ≤ 1000) (hk : chd dir s = k) (hks : k.size ≤ 3000) (i : Nat) (hi : shd n k = i) (x : Pay) (l' : PL) (hP : GetIs r (Ls i) k l' x true) (b : Nat) (xs : List Value) (hrow : w.ownsRow b 70 2 (.slice x.A x.n x.c) x.n xs) (hone : ∀ u ∈ xs, u.oneCell' = true) (hxn : x.n ≤ 1000) :
    Calls Try.prog 42 #[.pointer (some ⟨g, 0, none⟩), .int .i64 x.ep, .string dir, .string s] w (LookHit w0 g gs n r (hits + 1) misses vs G V (up Ls i l') i x xs w) := by
  have hil : i < n := by rw [← hi]; exact shd_lt hn0 k
  have HG := Av.mk (dget_all (w0 := w0) (g := g) (gs := gs) (hits := hits) (misses := misses) (vs := vs) (G := G) (V := V) (k := k) hn0 hn1 (by omega) (by rw [hi]; exact hP))
  rw [hi] at HG
  have HC := fun W => child_calls dir s W (by omega) (by omega)
  rw [hk] at HC
  have HC := Av.mk HC
  have HD0S := Av.mk h.below.size
  have HD0 := Av.mk h
  have HR0 := Av.mk hrow
  have HO1 := Av.mk hone
  clear h hrow hone hk hi hP
  go_enter Try.func42, Try.ntmps42
  go_wp2_with fail
  have X0 := Av.mk (Blk.new w 76 #[.int .i64 0, .bool false, .int .i64 0, .int .i64 0, .int .i64 0, .slice none 0 0, .string (⟨#[]⟩ : ByteArray)])
  have HK0 := Av.mk ((Keep.refl (fun _ => False) w).alloc (.cells #[.int .i64 0, .bool false, .int .i64 0, .int .i64 0, .int .i64 0, .slice none 0 0, .string (⟨#[]⟩ : ByteArray)] 76))
  have HD := Av.mk (HD0.out.grow (below_of_keep HK0.out))
  have HR := Av.mk (row_keep HR0.out HK0.out (by simp))
  clear HD0 HR0
  generalize w.alloc (.cells #[.int .i64 0, .bool false, .int .i64 0, .int .i64 0, .int .i64 0, .slice none 0 0, .string (⟨#[]⟩ : ByteArray)] 76) = w1 at *
  have c0 := HD.out.blk.cell 0
  have lg := HD.out.blk.lt
  simp at c0
  have XA := Av.mk (Blk.new w1 76 #[.int .i64 0, .bool false, .int .i64 0, .int .i64 0, .int .i64 0, .slice none 0 0, .string (⟨#[]⟩ : ByteArray)])
  have KA := Av.mk ((Keep.refl (fun _ => False) w1).alloc (.cells #[.int .i64 0, .bool false, .int .i64 0, .int .i64 0, .int .i64 0, .slice none 0 0, .string (⟨#[]⟩ : ByteArray)] 76))
  have HDA := Av.mk (HD.out.grow (below_of_keep KA.out))
  have X0A := Av.mk (X0.out.keep KA.out (by simp))
  have HRA := Av.mk (row_keep HR.out KA.out (by simp))
  have hw1 : w.heap.size < w1.heap.size := X0.out.lt
  have HW1 := Av.mk hw1
  go_region_with (first | (go_at_call 76; refine (HC.out _).mono ?_; rintro e _ ⟨rfl, rfl⟩) | (go_at_call 75; refine (HG.out w1.drew HD.out.drew).mono ?_; rintro e w2 ⟨rfl, hd2, k2⟩; have HD2 := Av.mk hd2; have X2 := Av.mk (HD.out.drew.act hil k2 X0.out.drew); have HR2 := Av.mk (HD.out.drew.act70 hil k2 HR.out); have HK2 := Av.mk k2; clear hd2 k2) | (go_at_call 75; refine (HG.out (w1.alloc (.cells #[.int .i64 0, .bool false, .int .i64 0, .int .i64 0, .int .i64 0, .slice none 0 0, .string (⟨#[]⟩ : ByteArray)] 76)).drew HDA.out.drew).mono ?_; rintro e w2 ⟨rfl, hd2, k2⟩; have HD2 := Av.mk hd2; have X2 := Av.mk (HDA.out.drew.act hil k2 X0A.out.drew); have Y2 := Av.mk (HDA.out.drew.act hil k2 XA.out.drew); have HR2 := Av.mk (HDA.out.drew.act70 hil k2 HRA.out); have HK2 := Av.mk k2; have ly := Y2.out.lt; have y0 := Y2.out.cell 0; have y1 := Y2.out.cell 1; have y2 := Y2.out.cell 2; have y3 := Y2.out.cell 3; have y4 := Y2.out.cell 4; have y5 := Y2.out.cell 5; have y6 := Y2.out.cell 6; have f0 := Y2.out.frozen 0; have f1 := Y2.out.frozen 1; have f2 := Y2.out.frozen 2; have f3 := Y2.out.frozen 3; have f4 := Y2.out.frozen 4; have f5 := Y2.out.frozen 5; have f6 := Y2.out.frozen 6; simp at y0 y1 y2 y3 y4 y5 y6; clear hd2 k2))
  all_goals
    first
    | (have L := lay76 x Y2.out
       have B3 := Av.mk L.1
       have HD3 := Av.mk (HD2.out.far Y2.out (by have := HD.out.below.size; omega) L.2)
       have X3 := Av.mk (X2.out.keep L.2 (by have := HW1.out; omega))
       have HR3 := Av.mk (row_keep HR2.out L.2 (fun k hk e => row_ne HR2.out Y2.out (by decide) (by rw [hk, e])))
       have K3 := Av.mk (show KeepC g G V i w _ from ((((HK0.out.mono (S' := fun k => k = g ∨ k = G i ∨ some k = (V i).ownBlock) (fun _ _ h => h.elim)).alloc (.cells #[.int .i64 0, .bool false, .int .i64 0, .int .i64 0, .int .i64 0, .slice none 0 0, .string (⟨#[]⟩ : ByteArray)] 76)).drew).andThen HK2.out (fun _ _ e => .inr e)).andThen L.2 (fun j hj e => by have := HW1.out; omega))
       clear L Y2 ly y0 y1 y2 y3 y4 y5 y6 f0 f1 f2 f3 f4 f5 f6
       generalize ((((((w2.setCell ⟨w1.heap.size, 0, none⟩ (.int .i64 x.ep)).setCell ⟨w1.heap.size, 1, none⟩ (.bool x.there)).setCell ⟨w1.heap.size, 2, none⟩ (.int .i64 x.kind)).setCell ⟨w1.heap.size, 3, none⟩ (.int .i64 x.lev)).setCell ⟨w1.heap.size, 4, none⟩ (.int .i64 x.ino)).setCell ⟨w1.heap.size, 5, none⟩ (.slice x.A x.n x.c)).setCell ⟨w1.heap.size, 6, none⟩ (.string x.tg) = w3 at *
       generalize w1.heap.size = g10 at *)
    | (have B3 := Av.mk (Blk.new w2 76 #[.int .i64 x.ep, .bool x.there, .int .i64 x.kind, .int .i64 x.lev, .int .i64 x.ino, .slice x.A x.n x.c, .string x.tg])
       have KZ := Av.mk ((Keep.refl (fun _ => False) w2).alloc (.cells #[.int .i64 x.ep, .bool x.there, .int .i64 x.kind, .int .i64 x.lev, .int .i64 x.ino, .slice x.A x.n x.c, .string x.tg] 76))
       have HD3 := Av.mk (HD2.out.grow (below_of_keep KZ.out))
       have X3 := Av.mk (X2.out.keep KZ.out (by simp))
       have HR3 := Av.mk (row_keep HR2.out KZ.out (by simp))
       have K3 := Av.mk (show KeepC g G V i w _ from (((HK0.out.mono (S' := fun k => k = g ∨ k = G i ∨ some k = (V i).ownBlock) (fun _ _ h => h.elim)).drew).andThen HK2.out (fun _ _ e => .inr e)).alloc (.cells #[.int .i64 x.ep, .bool x.there, .int .i64 x.kind, .int .i64 x.lev, .int .i64 x.ino, .slice x.A x.n x.c, .string x.tg] 76))
       clear KZ
       generalize w2.alloc (.cells #[.int .i64 x.ep, .bool x.there, .int .i64 x.kind, .int .i64 x.lev, .int .i64 x.ino, .slice x.A x.n x.c, .string x.tg] 76) = w3 at *
       generalize w2.heap.size = g10 at *)
    clear HD2 X2 HR2 HK2 XA KA HDA X0A HRA HD HR X0 HK0 c0 lg hw1 HG HC
    have d0 := B3.out.cell 0; have d1 := B3.out.cell 1; have d2 := B3.out.cell 2; have d3 := B3.out.cell 3; have d4 := B3.out.cell 4; have d5 := B3.out.cell 5; have d6 := B3.out.cell 6
    have lb := B3.out.lt
    have a0 := HD3.out.blk.cell 0
    have a1 := HD3.out.blk.cell 1
    have a2 := HD3.out.blk.cell 2
    have f1 := HD3.out.blk.frozen 1
    have lg := HD3.out.blk.lt
    have hw : IntKind.i64.wrap (hits + 1) = hits + 1 := wrapI (by omega) (by omega)
    have ne1 : g10 ≠ g := B3.out.ne_ HD3.out.blk (by decide)
    have ne2 : g ≠ g10 := ne1.symm
    simp at d0 d1 d2 d3 d4 d5 d6 a0 a1 a2
    go_wp2_with fail
    have X4 := Av.mk (X3.out.keep (kset2 (u := .int .i64 (hits + 1)) (i := 1) (Keep.refl (fun k => k = g) w3)) (X3.out.ne_ HD3.out.blk (by decide)))
    have HR4 := Av.mk (row_keep HR3.out (kset2 (u := .int .i64 (hits + 1)) (i := 1) (Keep.refl (fun k => k = g) w3)) (fun k hk e => row_ne HR3.out HD3.out.blk (by decide) (by rw [hk, e])))
    have HD4 := Av.mk (HD3.out.set 1 (.int .i64 (hits + 1)) (h2 := hits + 1) (m2 := misses) (by simp))
    have K4 := Av.mk (show KeepC g G V i w _ from K3.out.setCell (p := ⟨g, 1, none⟩) (fun _ => .inl rfl) (.int .i64 (hits + 1)))
    clear B3 HD3 X3 HR3 K3 d0 d1 d2 d3 d4 d5 d6 lb a0 a1 a2 f1 lg hw ne1 ne2
    generalize w3.setCell ⟨g, 1, none⟩ (.int .i64 (hits + 1)) = w4 at *
    refine (copied_calls x b xs w4 HR4.out HO1.out hxn).mono ?_
    rintro e w5 ⟨A, c, rfl, hr5, hb5⟩
    have HR5 := Av.mk hr5
    have HD5 := Av.mk (HD4.out.grow hb5)
    have X5 := Av.mk (X4.out.keep (Keep.of_below (S := fun _ => False) hb5) (by simp))
    have K5 := Av.mk (show KeepC g G V i w w5 from K4.out.trans (Keep.of_below hb5))
    have hsz4 : w.heap.size ≤ w4.heap.size := K4.out.size
    clear hr5 hb5 X4 HR4 HD4 K4
    have z0 := X5.out.cell 0; have z1 := X5.out.cell 1; have z2 := X5.out.cell 2; have z3 := X5.out.cell 3; have z4 := X5.out.cell 4; have z5 := X5.out.cell 5; have z6 := X5.out.cell 6
    have q0 := X5.out.frozen 0; have q1 := X5.out.frozen 1; have q2 := X5.out.frozen 2; have q3 := X5.out.frozen 3; have q4 := X5.out.frozen 4; have q5 := X5.out.frozen 5; have q6 := X5.out.frozen 6
    have lx5 := X5.out.lt
    simp at z0 z1 z2 z3 z4 z5 z6
    go_wp2
    refine bodyPost_ret (v := .tuple #[.agg #[.int .i64 x.ep, .bool x.there, .int .i64 x.kind, .int .i64 x.lev, .int .i64 x.ino, .slice A x.n c, .string x.tg], .bool true]) (by simp [results, Try.results42, go_sem, z0,z1,z2,z3,z4,z5,z6, lx5]) rfl ?_
    have L := lay76 (w := w5) (gx := w.heap.size) ⟨x.ep, x.there, x.kind, x.lev, x.ino, A, x.n, c, x.tg⟩ X5.out
    exact ⟨A, c, rfl, row_keep (row_mono HR5.out hsz4) L.2 (fun k hk e => row_ne HR5.out X5.out (by decide) (by rw [hk, e])), HD5.out.far X5.out HD0S.out L.2, K5.out.andThen L.2 (fun j hj e => absurd hj (by omega))⟩

def LookMiss (w0 : World) (g gs n : Nat) (r hits misses : Int) (vs : Value) (G : Nat → Nat) (V : Nat → Value) (Ls : Nat → PL) (i : Nat) (w : World) (e : Ending) (w' : World) : Prop :=
  e = .returned (.tuple #[.agg #[.int .i64 0, .bool false, .int .i64 0, .int .i64 0, .int .i64 0, .slice none 0 0, .string (⟨#[]⟩ : ByteArray)], .bool false]) ∧ Dc w0 w' g gs n r hits misses vs G V Ls ∧ KeepC g G V i w w'

end Go.Proofs.Ytiopmehaghcpfaa.E
