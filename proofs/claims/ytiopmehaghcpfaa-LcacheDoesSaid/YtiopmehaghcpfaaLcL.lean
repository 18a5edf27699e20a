/- lcache.Cache: its contracts. Printed by mac.py from LcL.src. -/
import Derived.Test.YtiopmehaghcpfaaFamL
import Derived.Test.YtiopmehaghcpfaaCp
import Derived.Deep.RegionLaw
import Derived.Deep.AppendLies
namespace Go.Proofs.Ytiopmehaghcpfaa.L
open Go.Proofs.Ytiopmehaghcpfaa
open Go.RowKit Go.Maps
set_option linter.unusedSimpArgs false
set_option linter.unusedVariables false
attribute [local go_sem ↓] run_max_int run_min_int

theorem kset3 {B : Nat} {a w : World} {g i : Nat} {u : Value} (h : Keep (fun k => k < B) a w) (hg : g < B) : Keep (fun k => k < B) a (w.setCell ⟨g, i, none⟩ u) := h.setCell (p := ⟨g, i, none⟩) (fun _ => hg) u
theorem below_of_keep {w w' : World} (h : Keep (fun _ => False) w w') : Below w.heap.size w w' := ⟨h.os, h.tape, h.output, h.size, fun k hk => h.block k hk (by simp)⟩
theorem up_up {α : Type} (f : Nat → α) (i : Nat) (a b : α) : up (up f i a) i b = up f i b := by
  funext j
  unfold up
  split <;> rfl
theorem info83 : ∃ i, Try.prog.info? 83 = some i ∧ i.zero = some (.agg #[.string (⟨#[]⟩ : ByteArray), .int .i64 0]) ∧ i.size = 2 ∧ i.bytes = 24 := by
  have h : (Try.prog.info? 83).map (fun i => (i.zero, i.size, i.bytes)) = some (some (.agg #[.string (⟨#[]⟩ : ByteArray), .int .i64 0]), 2, 24) := by kernel_rfl
  obtain ⟨i, hi, e⟩ := Option.map_eq_some_iff.1 h
  simp only [Prod.mk.injEq] at e
  exact ⟨i, hi, e.1, e.2.1, e.2.2⟩

/-- A cache of lists: its block, its shards, their caches. -/
structure Lc (w0 w : World) (g gs n : Nat) (r made : Int) (vs : Value) (G : Nat → Nat) (V : Nat → Value) (Ls : Nat → PL) : Prop where
  blk : Blk w g 143 #[.pointer (some ⟨gs, 0, none⟩), .int .i64 made]
  sh : Shb w gs gs n vs G
  fam : Fam w w0.heap.size n (fun _ => r) G V Ls
  below : Below w0.heap.size w0 w
  hg : w0.heap.size ≤ g
def KeepI (G : Nat → Nat) (V : Nat → Value) (i : Nat) : World → World → Prop := Keep (fun k => k = G i ∨ some k = (V i).ownBlock)
def KeepC (g : Nat) (G : Nat → Nat) (V : Nat → Value) (i : Nat) : World → World → Prop := Keep (fun k => k = g ∨ k = G i ∨ some k = (V i).ownBlock)
section
variable {w0 w w' : World} {g gs n : Nat} {r made : Int} {vs : Value} {G : Nat → Nat} {V : Nat → Value} {Ls : Nat → PL} {l' : PL} {k : ByteArray} {x : Pay} {ok : Bool} {i : Nat} {res : Value} {e : Ending}
theorem Lc.drewN (h : Lc w0 w g gs n r made vs G V Ls) (d : Nat) : Lc w0 (w.drewN d) g gs n r made vs G V Ls :=
  ⟨h.blk, ⟨h.sh.blk, h.sh.row⟩, h.fam.keep ((Keep.refl (fun _ => False) w).drewN d) (by simp) (by simp), below_drewN h.below _, h.hg⟩
theorem Lc.drew (h : Lc w0 w g gs n r made vs G V Ls) : Lc w0 w.drew g gs n r made vs G V Ls := h.drewN 1
theorem Lc.grow (h : Lc w0 w g gs n r made vs G V Ls) (hb : Below w.heap.size w w') : Lc w0 w' g gs n r made vs G V Ls :=
  ⟨h.blk.keep (Keep.of_below (S := fun _ => False) hb) (by simp), h.sh.below hb, h.fam.below hb, below_then h.below h.below.size hb, h.hg⟩
theorem Lc.act83 (h : Lc w0 w g gs n r made vs G V Ls) {b m : Nat} {v : Value} {xs : List Value} (hi : i < n) (hk : KeepI G V i w w') (hx : w.ownsRow b 83 2 v m xs) : w'.ownsRow b 83 2 v m xs :=
  row_by_fam hx (by decide) (by decide) h.fam hi hk
theorem Lc.row83 {b m : Nat} {v : Value} {xs : List Value} (h : Lc w0 w g gs n r made vs G V Ls) (hi : i < n) (hk : KeepC g G V i w w') (hx : w.ownsRow b 83 2 v m xs) : w'.ownsRow b 83 2 v m xs :=
  row_keep hx hk (by
    rintro k hk' (e | e | e)
    · exact row_ne hx h.blk (by decide) (by rw [hk', e])
    · exact row_ne hx (h.fam.lru i hi).blk (by decide) (by rw [hk', e])
    · exact row_ne_row hx (h.fam.lru i hi).row (by decide) k hk' e)
theorem Lc.blkC {b t : Nat} {cs : Array Value} (h : Lc w0 w g gs n r made vs G V Ls) (hi : i < n) (hk : KeepC g G V i w w') (hx : Blk w b t cs) (h1 : t ≠ 143) (h2 : t ≠ 166) (h3 : t ≠ 171) : Blk w' b t cs :=
  hx.keep hk (by
    rintro (e | e | e)
    · exact hx.ne_ h.blk h1 e
    · exact hx.ne_ (h.fam.lru i hi).blk h2 e
    · exact row_ne (h.fam.lru i hi).row hx h3 e)
theorem Lc.got (h : Lc w0 w g gs n r made vs G V Ls) (hi : i < n) (hp : GetS w0.heap.size (G i) r (V i) l' res w e w') :
    e = .returned res ∧ Lc w0 w' g gs n r made vs G V (up Ls i l') ∧ KeepI G V i w w' := by
  obtain ⟨he, hF, hk⟩ := after_get h.fam hi hp
  exact ⟨he, ⟨Blk.by_fam h.blk (by decide) (by decide) h.fam hi hk, h.sh.by_fam h.fam hi hk, hF, below_fam h.fam hi h.below h.below.size (Nat.le_refl _) hk, h.hg⟩, hk⟩
theorem Lc.putt (h : Lc w0 w g gs n r made vs G V Ls) (hi : i < n) (hp : PutS w0.heap.size (G i) r (V i) l' res w e w') :
    e = .returned res ∧ (∃ V', Lc w0 w' g gs n r made vs G V' (up Ls i l') ∧ ∀ j, j ≠ i → V' j = V j) ∧ KeepI G V i w w' := by
  obtain ⟨he, v', hF, hk⟩ := after_put h.fam hi hp
  exact ⟨he, ⟨_, ⟨Blk.by_fam h.blk (by decide) (by decide) h.fam hi hk, h.sh.by_fam h.fam hi hk, hF, below_fam h.fam hi h.below h.below.size (Nat.le_refl _) hk, h.hg⟩, fun j hj => up_other _ _ _ hj⟩, hk⟩
theorem Lc.set (h : Lc w0 w g gs n r made vs G V Ls) (m2 : Int) : Lc w0 (w.setCell ⟨g, 1, none⟩ (.int .i64 m2)) g gs n r m2 vs G V Ls := by
  have hk : Keep (fun k => k = g) w (w.setCell ⟨g, 1, none⟩ (.int .i64 m2)) := kset2 (Keep.refl _ w)
  refine ⟨by simpa using h.blk.set_ 1 (.int .i64 m2), h.sh.keep hk (h.blk.ne_ h.sh.blk (by decide)).symm (fun k hk' e' => row_ne h.sh.row h.blk (by decide) (by rw [hk', e'])),
    h.fam.keep hk (fun i hi => (h.blk.ne_ (h.fam.lru i hi).blk (by decide)).symm) (fun i k hi hk' e' => row_ne (h.fam.lru i hi).row h.blk (by decide) (by rw [hk', e'])), below_keep h.below h.below.size hk (fun k e' => by rw [e']; exact h.hg), h.hg⟩
theorem lget_all (hn0 : 0 < n) (hn1 : n ≤ 256) (hk : k.size ≤ 9000000000000000000) (hP : GetIs r (Ls (shd n k)) k l' x ok) (W : World) (h : Lc w0 W g gs n r made vs G V Ls) :
    Calls Try.prog 78 #[.pointer (some ⟨gs, 0, none⟩), .string k] W (Res (.tuple #[.agg #[.int .i64 x.ep, .slice x.A x.n x.c], .bool ok]) (fun w' => Lc w0 w' g gs n r made vs G V (up Ls (shd n k) l') ∧ KeepI G V (shd n k) W w')) :=
  (sget_calls gs gs n vs _ k W h.sh hn0 hn1 hk w0.heap.size _ r _ _ l' x ok (h.fam.lru _ (shd_lt hn0 k)) rfl hP).mono fun _ _ hp => ⟨(h.got (shd_lt hn0 k) hp).1, (h.got (shd_lt hn0 k) hp).2.1, (h.got (shd_lt hn0 k) hp).2.2⟩
theorem lput_all {gone : ByteArray} {is : Bool} (hn0 : 0 < n) (hn1 : n ≤ 256) (hk : k.size ≤ 9000000000000000000) (hP : PutIs r (Ls (shd n k)) k x l' gone is) (W : World) (h : Lc w0 W g gs n r made vs G V Ls) :
    Calls Try.prog 79 #[.pointer (some ⟨gs, 0, none⟩), .string k, .agg #[.int .i64 x.ep, .slice x.A x.n x.c]] W (Res (.tuple #[.string gone, .bool is]) (fun w' => (∃ V', Lc w0 w' g gs n r made vs G V' (up Ls (shd n k) l') ∧ ∀ j, j ≠ shd n k → V' j = V j) ∧ KeepI G V (shd n k) W w')) :=
  (sput_calls gs gs n vs _ k x W h.sh hn0 hn1 hk w0.heap.size _ r _ _ l' gone is (h.fam.lru _ (shd_lt hn0 k)) (h.fam.ge _ (shd_lt hn0 k)) rfl hP).mono fun _ _ hp => ⟨(h.putt (shd_lt hn0 k) hp).1, (h.putt (shd_lt hn0 k) hp).2.1, (h.putt (shd_lt hn0 k) hp).2.2⟩
end

def LookHit (w0 : World) (g gs n : Nat) (r made : Int) (vs : Value) (G : Nat → Nat) (V : Nat → Value) (Ls : Nat → PL) (i : Nat) (x : Pay) (xs : List Value) (w : World) (e : Ending) (w' : World) : Prop :=
  ∃ A c, e = .returned (.tuple #[.slice A x.n c, .bool true]) ∧ w'.ownsRow w.heap.size 83 2 (.slice A x.n c) x.n xs ∧ Lc w0 w' g gs n r made vs G V Ls ∧ KeepC g G V i w w'

set_option maxRecDepth 100000 in
set_option maxHeartbeats 4000000 in
theorem look_hit (w0 w : World) (g gs n : Nat) (r made : Int) (vs : Value) (G : Nat → Nat) (V : Nat → Value) (Ls : Nat → PL) (h : Lc w0 w g gs n r made vs G V Ls) (hn0 : 0 < n) (hn1 : n ≤ 256)
    (k : ByteArray) (hks : k.size ≤ 3000) (i : Nat) (hi : shd n k = i) (x : Pay) (l' : PL) (hP : GetIs r (Ls i) k l' x true) (b : Nat) (xs : List Value) (hrow : w.ownsRow b 83 2 (.slice x.A x.n x.c) x.n xs) (hone : ∀ u ∈ xs, u.oneCell' = true) (hxn : x.n ≤ 1000) :
    Calls Try.prog 43 #[.pointer (some ⟨g, 0, none⟩), .int .i64 x.ep, .string k] w (LookHit w0 g gs n r made vs G V (up Ls i l') i x xs w) := by
  obtain ⟨i0, hi0⟩ := info83
  have I := Av.mk hi0
  have hil : i < n := by rw [← hi]; exact shd_lt hn0 k
  have HG := Av.mk (lget_all (w0 := w0) (g := g) (gs := gs) (made := made) (vs := vs) (G := G) (V := V) (k := k) hn0 hn1 (by omega) (by rw [hi]; exact hP))
  rw [hi] at HG
  have HD := Av.mk h
  have HR := Av.mk hrow
  have HO1 := Av.mk hone
  have c0 := h.blk.cell 0
  have lg := h.blk.lt
  simp at c0
  clear h hrow hone hi hP hi0
  go_enter Try.func43, Try.ntmps43
  go_wp2_with fail
  refine (HG.out w HD.out).mono ?_
  rintro e w2 ⟨rfl, hd2, k2⟩
  have KZ := (Keep.refl (fun _ => False) w2).alloc (.cells #[.int .i64 x.ep, .slice x.A x.n x.c] 141)
  have HD2 := Av.mk (hd2.grow (below_of_keep KZ))
  have B2 := Av.mk (Blk.new w2 141 #[.int .i64 x.ep, .slice x.A x.n x.c])
  have HR2 := Av.mk (row_keep (HD.out.act83 hil k2 HR.out) KZ (by simp))
  have K2 := Av.mk (show KeepC g G V i w _ from (k2.mono (fun _ _ e => .inr e)).alloc (.cells #[.int .i64 x.ep, .slice x.A x.n x.c] 141))
  clear hd2 k2 HD HR c0 lg HG KZ
  go_upto_region 2 with (fail)
  generalize w2.alloc (.cells #[.int .i64 x.ep, .slice x.A x.n x.c] 141) = w3 at *
  generalize w2.heap.size = g3 at *
  have d0 := B2.out.cell 0; have d1 := B2.out.cell 1
  have lb := B2.out.lt
  simp at d0 d1
  go_wp2_with (first | (at_builtin; refine wpList_clone rfl (.tmp 28) 79 rfl 83 i0 (.agg #[.string (⟨#[]⟩ : ByteArray), .int .i64 0]) 2 24 Try.underlying79 I.out.1 I.out.2.1 I.out.2.2.1 I.out.2.2.2 rfl (by decide) b _ x.n xs rfl HR2.out HO1.out (by unfold maxLen; omega) (by omega) ?_; intro A c w4 hown hb4; have HO := Av.mk hown; have HB := Av.mk hb4; clear hown hb4))
  go_ret2
  exact ⟨A, c, rfl, row_mono HO.out K2.out.size, HD2.out.grow HB.out, K2.out.trans (Keep.of_below HB.out)⟩

def LookMiss (w0 : World) (g gs n : Nat) (r made : Int) (vs : Value) (G : Nat → Nat) (V : Nat → Value) (Ls : Nat → PL) (i : Nat) (w : World) (e : Ending) (w' : World) : Prop :=
  e = .returned (.tuple #[.slice none 0 0, .bool false]) ∧ Lc w0 w' g gs n r made vs G V Ls ∧ KeepC g G V i w w'

set_option maxRecDepth 100000 in
set_option maxHeartbeats 4000000 in
theorem look_miss (w0 w : World) (g gs n : Nat) (r made : Int) (vs : Value) (G : Nat → Nat) (V : Nat → Value) (Ls : Nat → PL) (h : Lc w0 w g gs n r made vs G V Ls) (hn0 : 0 < n) (hn1 : n ≤ 256)
    (k : ByteArray) (hks : k.size ≤ 3000) (i : Nat) (hi : shd n k = i) (x : Pay) (l' : PL) (ok : Bool) (ep : Int) (hP : GetIs r (Ls i) k l' x ok) (hm : ok = false ∨ x.ep ≠ ep) :
    Calls Try.prog 43 #[.pointer (some ⟨g, 0, none⟩), .int .i64 ep, .string k] w (LookMiss w0 g gs n r made vs G V (up Ls i l') i w) := by
  have hil : i < n := by rw [← hi]; exact shd_lt hn0 k
  have HG := Av.mk (lget_all (w0 := w0) (g := g) (gs := gs) (made := made) (vs := vs) (G := G) (V := V) (k := k) hn0 hn1 (by omega) (by rw [hi]; exact hP))
  rw [hi] at HG
  have HD := Av.mk h
  have HM := Av.mk hm
  have c0 := h.blk.cell 0
  have lg := h.blk.lt
  simp at c0
  clear h hi hP hm
  go_enter Try.func43, Try.ntmps43
  go_wp2_with fail
  refine (HG.out w HD.out).mono ?_
  rintro e w2 ⟨rfl, hd2, k2⟩
  have KZ := (Keep.refl (fun _ => False) w2).alloc (.cells #[.int .i64 x.ep, .slice x.A x.n x.c] 141)
  have HD2 := Av.mk (hd2.grow (below_of_keep KZ))
  have B2 := Av.mk (Blk.new w2 141 #[.int .i64 x.ep, .slice x.A x.n x.c])
  have K2 := Av.mk (show KeepC g G V i w _ from (k2.mono (fun _ _ e => .inr e)).alloc (.cells #[.int .i64 x.ep, .slice x.A x.n x.c] 141))
  clear hd2 k2 HD c0 lg HG KZ
  go_upto_region 2 with (fail)
  generalize w2.alloc (.cells #[.int .i64 x.ep, .slice x.A x.n x.c] 141) = w3 at *
  generalize w2.heap.size = g3 at *
  have d0 := B2.out.cell 0; have d1 := B2.out.cell 1
  have lb := B2.out.lt
  simp at d0 d1
  cases ok
  case false =>
    go_wp2
    go_ret2
    exact ⟨rfl, HD2.out, K2.out⟩
  case true =>
    have hme : ¬ x.ep = ep := by have := HM.out; simpa using this
    go_wp2
    go_ret2
    exact ⟨rfl, HD2.out, K2.out⟩

def KeepNo (w0 : World) (g gs n : Nat) (r made : Int) (vs : Value) (G : Nat → Nat) (V : Nat → Value) (Ls : Nat → PL) (i : Nat) (w : World) (e : Ending) (w' : World) : Prop :=
  e = .returned (.bool false) ∧ Lc w0 w' g gs n r made vs G V Ls ∧ KeepC g G V i w w'

set_option maxRecDepth 100000 in
set_option maxHeartbeats 4000000 in
theorem keep_no (w0 w : World) (g gs n : Nat) (r made : Int) (vs : Value) (G : Nat → Nat) (V : Nat → Value) (Ls : Nat → PL) (h : Lc w0 w g gs n r made vs G V Ls) (hn0 : 0 < n) (hn1 : n ≤ 256)
    (k : ByteArray) (hks : k.size ≤ 3000) (i : Nat) (hi : shd n k = i) (x : Pay) (ep : Int) (sv : Value) (l' : PL) (hP : GetIs r (Ls i) k l' x true) (hgt : ep < x.ep) :
    Calls Try.prog 44 #[.pointer (some ⟨g, 0, none⟩), .int .i64 ep, .string k, sv] w (KeepNo w0 g gs n r made vs G V (up Ls i l') i w) := by
  have hil : i < n := by rw [← hi]; exact shd_lt hn0 k
  have HG := Av.mk (lget_all (w0 := w0) (g := g) (gs := gs) (made := made) (vs := vs) (G := G) (V := V) (k := k) hn0 hn1 (by omega) (by rw [hi]; exact hP))
  rw [hi] at HG
  have HD := Av.mk h
  have c0 := h.blk.cell 0
  have lg := h.blk.lt
  simp at c0
  clear h hi hP
  go_enter Try.func44, Try.ntmps44
  go_wp2_with fail
  refine (HG.out w HD.out).mono ?_
  rintro e w2 ⟨rfl, hd2, k2⟩
  have KZ := (Keep.refl (fun _ => False) w2).alloc (.cells #[.int .i64 x.ep, .slice x.A x.n x.c] 141)
  have HD2 := Av.mk (hd2.grow (below_of_keep KZ))
  have K2 := Av.mk (show KeepC g G V i w _ from (k2.mono (fun _ _ e => .inr e)).alloc (.cells #[.int .i64 x.ep, .slice x.A x.n x.c] 141))
  clear hd2 k2 HD c0 lg HG KZ
  go_wp2
  go_ret
  exact ⟨rfl, HD2.out, K2.out⟩

def KeepYes (w0 : World) (g gs n : Nat) (r made : Int) (vs : Value) (G : Nat → Nat) (V : Nat → Value) (Ls : Nat → PL) (i : Nat) (m : Nat) (l2 : Option Addr → Nat → PL) (xs : List Value) (w : World) (e : Ending) (w' : World) : Prop :=
  e = .returned (.bool true) ∧ ∃ A c V', w'.ownsRow w.heap.size 83 2 (.slice A m c) m xs ∧ Lc w0 w' g gs n r made vs G V' (up Ls i (l2 A c)) ∧ (∀ j, j ≠ i → V' j = V j) ∧ KeepC g G V i w w'

set_option maxRecDepth 100000 in
set_option maxHeartbeats 4000000 in
theorem keep_yes (w0 w : World) (g gs n : Nat) (r made : Int) (vs : Value) (G : Nat → Nat) (V : Nat → Value) (Ls : Nat → PL) (h : Lc w0 w g gs n r made vs G V Ls) (hn0 : 0 < n) (hn1 : n ≤ 256)
    (k : ByteArray) (hks : k.size ≤ 3000) (i : Nat) (hi : shd n k = i) (x : Pay) (l' : PL) (ok : Bool) (ep : Int) (hP : GetIs r (Ls i) k l' x ok) (hgt : ok = false ∨ x.ep ≤ ep)
    (l2 : Option Addr → Nat → PL) (m : Nat) (hP2 : ∀ A c, ∃ gone is, PutIs r l' k ⟨ep, A, m, c⟩ (l2 A c) gone is)
    (b : Nat) (A0 : Option Addr) (c1 : Nat) (xs : List Value) (hrow : w.ownsRow b 83 2 (.slice A0 m c1) m xs) (hone : ∀ u ∈ xs, u.oneCell' = true) (hyn : m ≤ 1000) :
    Calls Try.prog 44 #[.pointer (some ⟨g, 0, none⟩), .int .i64 ep, .string k, .slice A0 m c1] w (KeepYes w0 g gs n r made vs G V Ls i m l2 xs w) := by
  obtain ⟨i0, hi0⟩ := info83
  have I := Av.mk hi0
  have hil : i < n := by rw [← hi]; exact shd_lt hn0 k
  have HG := Av.mk (lget_all (w0 := w0) (g := g) (gs := gs) (made := made) (vs := vs) (G := G) (V := V) (k := k) hn0 hn1 (by omega) (by rw [hi]; exact hP))
  have HPP : Av (∀ A c, ∃ gone is, ∀ W, Lc w0 W g gs n r made vs G V (up Ls i l') → Calls Try.prog 79 #[.pointer (some ⟨gs, 0, none⟩), .string k, .agg #[.int .i64 ep, .slice A m c]] W (Res (.tuple #[.string gone, .bool is]) (fun w' => (∃ V', Lc w0 w' g gs n r made vs G V' (up (up Ls i l') i (l2 A c)) ∧ ∀ j, j ≠ i → V' j = V j) ∧ KeepI G V i W w'))) := ⟨fun A c => by
    obtain ⟨gone, is, hp⟩ := hP2 A c
    refine ⟨gone, is, fun W hW => ?_⟩
    have hp2 : PutIs r (up Ls i l' (shd n k)) k ⟨ep, A, m, c⟩ (l2 A c) gone is := by rw [hi, up_same]; exact hp
    have := lput_all hn0 hn1 (by omega) hp2 W hW
    rw [hi] at this
    exact this⟩
  rw [hi] at HG
  have HD := Av.mk h
  have HR := Av.mk hrow
  have HO1 := Av.mk hone
  have HM := Av.mk hgt
  have c0 := h.blk.cell 0
  have lg := h.blk.lt
  simp at c0
  clear h hi hP hP2 hrow hone hgt hi0
  go_enter Try.func44, Try.ntmps44
  go_wp2_with fail
  refine (HG.out w HD.out).mono ?_
  rintro e w2 ⟨rfl, hd2, k2⟩
  have KZ := (Keep.refl (fun _ => False) w2).alloc (.cells #[.int .i64 x.ep, .slice x.A x.n x.c] 141)
  have HD2 := Av.mk (hd2.grow (below_of_keep KZ))
  have Y2 := Av.mk (Blk.new w2 141 #[.int .i64 x.ep, .slice x.A x.n x.c])
  have HR2 := Av.mk (row_keep (HD.out.act83 hil k2 HR.out) KZ (by simp))
  have K2 := Av.mk (show KeepC g G V i w _ from (k2.mono (fun _ _ e => .inr e)).alloc (.cells #[.int .i64 x.ep, .slice x.A x.n x.c] 141))
  clear hd2 k2 HD HR c0 lg HG KZ
  go_upto_region 2 with (fail)
  generalize w2.alloc (.cells #[.int .i64 x.ep, .slice x.A x.n x.c] 141) = w3 at *
  generalize w2.heap.size = g10 at *
  have z0 := Y2.out.cell 0; have z1 := Y2.out.cell 1
  have lz := Y2.out.lt
  have a0 := HD2.out.blk.cell 0
  have lg := HD2.out.blk.lt
  simp at z0 z1 a0
  have hcase : ok = false ∨ (ok = true ∧ ¬ ep < x.ep) := by
    rcases HM.out with h | h
    · exact .inl h
    · cases ok
      · exact .inl rfl
      · exact .inr ⟨rfl, by omega⟩
  clear HM
  rcases hcase with rfl | ⟨rfl, hle⟩
  all_goals
    go_wp2_with fail
    go_region_law (first | (refine step_clone rfl (.tmp 33) 79 rfl 83 i0 (.agg #[.string (⟨#[]⟩ : ByteArray), .int .i64 0]) 2 24 Try.underlying79 I.out.1 I.out.2.1 I.out.2.2.1 I.out.2.2.2 rfl (by decide) b (.slice A0 m c1) m xs (by simp [Act.eval, Act.put]) HR2.out.drew HO1.out (by unfold maxLen; omega) (by omega) ?_; intro A c w4 hr4 hb4; have HR4 := Av.mk hr4; have HD4 := Av.mk (HD2.out.drew.grow hb4); have a4 := HD4.out.blk.cell 0; have lg4 := HD4.out.blk.lt; have K4 := Av.mk (show KeepC g G V i w w4 from K2.out.drew.trans (Keep.of_below hb4)); have hsz := K2.out.size; simp at a4; clear hr4 hb4; obtain ⟨gone, is, hput⟩ := HPP.out A c; have HPW := Av.mk (hput w4 HD4.out); clear hput) | (go_simp; go_at_call 79; refine HPW.out.mono ?_; rintro e w5 ⟨rfl, ⟨V5, hd5, hv5⟩, k5⟩; have HR5 := Av.mk (HD4.out.act83 hil k5 HR4.out); have HD5 := Av.mk hd5; have HV5 := Av.mk hv5; have K5 := Av.mk (show KeepC g G V i w w5 from K4.out.andThen k5 (fun _ _ e => .inr e)); clear hd5 hv5 k5))
    all_goals
      rw [up_up] at HD5
      go_wp2
      go_ret
      exact ⟨rfl, A, c, V5, row_mono HR5.out hsz, HD5.out, HV5.out, K5.out⟩
end Go.Proofs.Ytiopmehaghcpfaa.L
