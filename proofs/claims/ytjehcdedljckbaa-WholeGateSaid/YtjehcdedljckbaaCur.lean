/- The contracts of package cursor. -/
import Derived.Test.YtjehcdedljckbaaBase
import Derived.Test.YtjehcdedljckbaaProg
namespace Go.Proofs.Ytjehcdedljckbaa
open Go.RowKit Go.Maps
attribute [local go_sem ↓] run_max_int run_min_int

/-- A cursor: its epoch, its directory, where it is. -/
abbrev Cr := Int × ByteArray × Int
@[reducible] def encC (c : Cr) : Value := .agg #[.int .i64 c.1, .string c.2.1, .int .i64 c.2.2]
def decC (v : Value) : Option Cr := match v with
  | .agg cs => match cs.toList with
    | [.int .i64 a, .string s, .int .i64 b] => some (a, s, b)
    | _ => none
  | _ => none
theorem decC_enc (c : Cr) : decC (encC c) = some c := rfl
theorem decC_inv (v : Value) (x : Cr) (h : decC v = some x) : v = encC x := by
  unfold decC at h
  split at h
  · rename_i cs
    split at h
    · rename_i hl
      cases h
      unfold encC
      congr 1
      exact Array.toList_inj.1 hl
    · cases h
  · cases h
def c0 : Cr := (0, ByteArray.empty, 0)

theorem law3 : Keyed Try.prog 3 := int_keyed Try.underlying3
theorem zero37 (w : World) : (zeroValue 37).run Try.prog w = .ok (encC c0) w := by kernel_rfl

/-- A table of cursors at block g: its room, its last number, the map's block and what it holds. -/
structure Tab (w : World) (g : Nat) (room next : Int) (bm n : Nat) (D : DataW Cr) : Prop where
  blk : Blk w g 53 #[.int .i64 room, .int .i64 next, .map (some bm)]
  map : w.ownsMap Try.prog 3 (rdr decC) bm n D
theorem Tab.keep {w w' : World} {g : Nat} {room next : Int} {bm n : Nat} {D : DataW Cr} {S : Nat → Prop} (h : Tab w g room next bm n D) (hk : Keep S w w') (h1 : ¬ S g) (h2 : ¬ S bm) : Tab w' g room next bm n D :=
  ⟨h.blk.keep hk h1, ownsMap_keep h.map hk h2⟩

def NewP (r : Int) (w : World) (e : Ending) (w' : World) : Prop := ∃ g bm, e = .returned (.pointer (some ⟨g, 0, none⟩)) ∧ w.heap.size ≤ g ∧ w.heap.size ≤ bm ∧ Tab w' g (mn (mx r 1) 1024) 0 bm 0 (.map []) ∧ Below w.heap.size w w'
set_option maxHeartbeats 400000 in
theorem New_calls (r : Int) (w : World) : Calls Try.prog 7 #[.int .i64 r] w (NewP r w) := by
  have hmm := @run_makeMap Try.prog
  go_enter Try.func7, Try.ntmps7
  go_wp2
  refine bodyPost_ret (results_tmp rfl _ _ _) rfl ?_
  refine ⟨w.heap.size + 1, w.heap.size, rfl, by omega, by omega, ⟨?_, ?_⟩, ?_⟩
  · have := Blk.new (w.alloc (.map #[] 0)) 53 #[.int .i64 (mn (mx r 1) 1024), .int .i64 0, .map (some w.heap.size)]
    simpa using this
  · exact (World.ownsMap_made w _ _ _).alloc _
  · exact ((Below.refl _ w).alloc (Nat.le_refl _) _).alloc (by simp) _


def iOf (id : Int) : Lit := .int .i64 id
/-- Nothing old has turned. -/
def RetB (v : Value) (w : World) (e : Ending) (w' : World) : Prop := e = .returned v ∧ Below w.heap.size w w'

set_option maxHeartbeats 400000 in
theorem Len_calls (g : Nat) (room next : Int) (bm n : Nat) (D : DataW Cr) (w : World) (h : Tab w g room next bm n D) :
    Calls Try.prog 10 #[.pointer (some ⟨g, 0, none⟩)] w fun e w' => e = .returned (.int .i64 (Maps.size D)) ∧ w = w' := by
  have c2 := h.blk.cell 2
  have hm := Av.mk h.map
  simp at c2
  clear h
  go_enter Try.func10, Try.ntmps10
  go_wp2_with (first | (at_len; refine wpList_len_own _ rfl _ 32 rfl 3 37 Try.underlying32 (rdr decC) bm n D rfl hm.out ?_))
  go_ret
  exact ⟨rfl, rfl⟩

set_option maxHeartbeats 400000 in
theorem Room_calls (g : Nat) (room next : Int) (bm n : Nat) (D : DataW Cr) (w : World) (h : Tab w g room next bm n D) :
    Calls Try.prog 13 #[.pointer (some ⟨g, 0, none⟩)] w fun e w' => e = .returned (.int .i64 room) ∧ w = w' := by
  have c0 := h.blk.cell 0
  simp at c0
  clear h
  go_enter Try.func13, Try.ntmps13
  go_wp2
  go_ret
  exact ⟨rfl, rfl⟩

theorem key3 {id : Int} (hid : (Lit.int .i64 id).wf = true) : keyOf Try.prog 3 (.int .i64 id) = some (iOf id) := keyOf_int_mk Try.underlying3 hid
theorem isKey_iOf (id : Int) : WideAt.IsKeyLit (iOf id) := by simp [iOf, WideAt.IsKeyLit]
theorem iOf_inj {a b : Int} : iOf a = iOf b ↔ a = b := by simp [iOf]

set_option maxHeartbeats 400000 in
theorem Get_yes (g : Nat) (room next : Int) (bm n : Nat) (D : DataW Cr) (id : Int) (w : World) (h : Tab w g room next bm n D) (hid : (Lit.int .i64 id).wf = true) (hh : Maps.has D (iOf id) = true) :
    Calls Try.prog 12 #[.pointer (some ⟨g, 0, none⟩), .int .i64 id] w (RetB (.tuple #[encC (atK D (iOf id) c0), .int .i64 0]) w) := by
  have c2 := h.blk.cell 2
  have hlt := h.blk.lt
  have hm := Av.mk h.map
  have hkey := Av.mk (key3 hid)
  simp at c2
  clear h
  go_enter Try.func12, Try.ntmps12
  go_wp2_with (first | (at_lookup; refine wpList_look decC encC decC_inv rfl _ _ 32 rfl 3 37 law3 Try.underlying32 c0 (zero37 _) rfl bm n D rfl (hm.out.alloc _) _ _ rfl hkey.out ?_))
  exact bodyPost_ret (v := .tuple #[encC (atK D (iOf id) c0), .int .i64 0]) (by simp [results, Try.results12, go_sem]) rfl ⟨rfl, below_alloc (below_alloc (Below.refl _ _) _) _⟩

set_option maxHeartbeats 400000 in
theorem Get_no (g : Nat) (room next : Int) (bm n : Nat) (D : DataW Cr) (id : Int) (w : World) (h : Tab w g room next bm n D) (hid : (Lit.int .i64 id).wf = true) (hh : Maps.has D (iOf id) = false) :
    Calls Try.prog 12 #[.pointer (some ⟨g, 0, none⟩), .int .i64 id] w (RetB (.tuple #[encC c0, .int .i64 9]) w) := by
  have c2 := h.blk.cell 2
  have hlt := h.blk.lt
  have hm := Av.mk h.map
  have hkey := Av.mk (key3 hid)
  simp at c2
  clear h
  go_enter Try.func12, Try.ntmps12
  go_wp2_with (first | (at_lookup; refine wpList_look decC encC decC_inv rfl _ _ 32 rfl 3 37 law3 Try.underlying32 c0 (zero37 _) rfl bm n D rfl (hm.out.alloc _) _ _ rfl hkey.out ?_))
  exact bodyPost_ret (v := .tuple #[encC c0, .int .i64 9]) (by simp [results, Try.results12, go_sem, encC, c0]; rfl) rfl ⟨rfl, below_alloc (below_alloc (Below.refl _ _) _) _⟩

/-- The table behind a call: what it holds; nothing else has turned. -/
def TabP (v : Value) (g : Nat) (room next : Int) (bm n : Nat) (D : DataW Cr) (w : World) (e : Ending) (w' : World) : Prop :=
  e = .returned v ∧ Tab w' g room next bm n D ∧ Keep (fun k => k = g ∨ k = bm) w w'

set_option maxHeartbeats 400000 in
theorem Close_yes (g : Nat) (room next : Int) (bm n : Nat) (D : DataW Cr) (id : Int) (w : World) (h : Tab w g room next bm n D) (hid : (Lit.int .i64 id).wf = true) (hh : Maps.has D (iOf id) = true) :
    Calls Try.prog 9 #[.pointer (some ⟨g, 0, none⟩), .int .i64 id] w (TabP (.int .i64 0) g room next bm n (D.del (iOf id)) w) := by
  have H := Av.mk h
  have hlt := h.blk.lt
  have hkey := Av.mk (key3 hid)
  have HG := Av.mk (Get_yes g room next bm n D id w h hid hh)
  clear h hh
  go_enter Try.func9, Try.ntmps9
  go_wp2_with fail
  refine HG.out.mono ?_
  rintro e w1 ⟨rfl, hb⟩
  have H1 := Av.mk (H.out.keep (Keep.of_below (S := fun _ => False) hb) (by simp) (by simp))
  have c2 := H1.out.blk.cell 2
  have hlt1 := H1.out.blk.lt
  have HB := Av.mk hb
  have hz := hb.size
  clear hb
  simp at c2
  go_wp2_with (first | (at_delete; refine wpList_delete_own _ rfl _ _ 32 3 rfl 37 law3 Try.underlying32 (rdr decC) bm n D rfl (H1.out.map.alloc _) _ _ rfl hkey.out ?_; intro w2 hown2 hturn2))
  go_ret
  have hk : Keep (fun k => k = g ∨ k = bm) w (w1.alloc (.cells (encC (atK D (iOf id) c0)).cells 37)) := (Keep.of_below HB.out).alloc _
  exact ⟨rfl, ⟨(H1.out.blk.alloc _).grown hturn2.grown (by simpa using (map_ne_blk H1.out.map H1.out.blk).symm), hown2⟩, hk.turned hturn2 (fun _ => .inr rfl)⟩


set_option maxHeartbeats 400000 in
theorem Close_no (g : Nat) (room next : Int) (bm n : Nat) (D : DataW Cr) (id : Int) (w : World) (h : Tab w g room next bm n D) (hid : (Lit.int .i64 id).wf = true) (hh : Maps.has D (iOf id) = false) :
    Calls Try.prog 9 #[.pointer (some ⟨g, 0, none⟩), .int .i64 id] w (RetB (.int .i64 9) w) := by
  have HG := Av.mk (Get_no g room next bm n D id w h hid hh)
  clear h hh
  go_enter Try.func9, Try.ntmps9
  go_wp2_with fail
  refine HG.out.mono ?_
  rintro e w1 ⟨rfl, hb⟩
  have HB := Av.mk hb
  clear hb
  go_wp2
  go_ret
  exact ⟨rfl, below_alloc HB.out _⟩

set_option maxHeartbeats 400000 in
theorem Move_no (g : Nat) (room next : Int) (bm n : Nat) (D : DataW Cr) (id k : Int) (w : World) (h : Tab w g room next bm n D) (hid : (Lit.int .i64 id).wf = true) (hh : Maps.has D (iOf id) = false) :
    Calls Try.prog 11 #[.pointer (some ⟨g, 0, none⟩), .int .i64 id, .int .i64 k] w (RetB (.int .i64 9) w) := by
  have HG := Av.mk (Get_no g room next bm n D id w h hid hh)
  clear h hh
  go_enter Try.func11, Try.ntmps11
  go_wp2_with fail
  refine HG.out.mono ?_
  rintro e w1 ⟨rfl, hb⟩
  have HB := Av.mk hb
  clear hb
  go_wp2
  go_ret
  exact ⟨rfl, below_alloc HB.out _⟩

def mv (c : Cr) (k : Int) : Cr := (c.1, c.2.1, wrap64 (c.2.2 + k))

set_option maxHeartbeats 400000 in
theorem Move_yes (g : Nat) (room next : Int) (bm n : Nat) (D : DataW Cr) (id k : Int) (w : World) (h : Tab w g room next bm n D) (hn : n < maxLen) (hid : (Lit.int .i64 id).wf = true) (hh : Maps.has D (iOf id) = true) :
    Calls Try.prog 11 #[.pointer (some ⟨g, 0, none⟩), .int .i64 id, .int .i64 k] w (TabP (.int .i64 0) g room next bm (n + 1) (D.put (iOf id) (.held (mv (atK D (iOf id) c0) k))) w) := by
  have H := Av.mk h
  have hlt := h.blk.lt
  have hkey := Av.mk (key3 hid)
  have HG := Av.mk (Get_yes g room next bm n D id w h hid hh)
  clear h hh
  go_enter Try.func11, Try.ntmps11
  go_wp2_with fail
  refine HG.out.mono ?_
  rintro e w1 ⟨rfl, hb⟩
  have H1 := Av.mk (H.out.keep (Keep.of_below (S := fun _ => False) hb) (by simp) (by simp))
  have c2 := H1.out.blk.cell 2
  have hlt1 := H1.out.blk.lt
  have HB := Av.mk hb
  have hz := hb.size
  clear hb
  simp at c2
  go_wp2
  refine wp_tail 6 (by kernel_rfl) (by kernel_rfl) ?_
  simp only [List.take_succ_cons, List.take_zero, List.drop_succ_cons, List.drop_zero]
  repeat (refine wpStill_step (fun K hK => ?_); go_simp; refine hK _ ?_; clear hK K)
  refine wpStill_nil ?_
  go_wp2_with (first | (at_mapUpdate; refine wpList_store decC rfl _ _ _ 32 rfl 3 37 law3 Try.underlying32 bm n D rfl (H1.out.map.alloc _) hn _ _ _ rfl rfl hkey.out (mv (atK D (iOf id) c0) k) rfl ?_; intro w2 hown2 hturn2))
  go_ret
  have hk : Keep (fun k => k = g ∨ k = bm) w (w1.alloc (.cells (encC (mv (atK D (iOf id) c0) k)).cells 37)).drew := ((Keep.of_below HB.out).alloc _).drew
  exact ⟨rfl, ⟨((H1.out.blk.alloc _).drew).grown hturn2.grown (by simpa using (map_ne_blk H1.out.map H1.out.blk).symm), hown2⟩, hk.turned hturn2 (fun _ => .inr rfl)⟩

set_option maxHeartbeats 400000 in
theorem Open_no (g : Nat) (room next : Int) (bm n : Nat) (D : DataW Cr) (ep : Int) (dir : ByteArray) (w : World) (h : Tab w g room next bm n D) (hf : room ≤ Maps.size D) :
    Calls Try.prog 8 #[.pointer (some ⟨g, 0, none⟩), .int .i64 ep, .string dir] w (RetB (.tuple #[.int .i64 0, .int .i64 7]) w) := by
  have c2 := h.blk.cell 2
  have c0 := h.blk.cell 0
  have hm := h.map
  have hlen : ∀ nq ty, (Builtin.len_ #[32] ty #[.map (some bm)]).run Try.prog (w.drewN nq) = .ok (.int .i64 (Maps.size D)) (w.drewN nq) := fun nq ty => (show (w.drewN nq).ownsMap Try.prog 3 (rdr decC) bm n D from hm).len Try.underlying32 ty
  clear hm
  simp at c2 c0
  clear h
  go_enter Try.func8, Try.ntmps8
  go_wp2
  go_quiet (fail)
  go_wp2
  go_ret2
  exact ⟨rfl, below_drewN (Below.refl _ _) _⟩

set_option maxHeartbeats 400000 in
theorem Open_yes (g : Nat) (room next : Int) (bm n : Nat) (D : DataW Cr) (ep : Int) (dir : ByteArray) (w : World) (h : Tab w g room next bm n D) (hn : n < maxLen) (h0 : 0 ≤ next) (h1 : next < 9000000000000000000) (hf : Maps.size D < room) :
    Calls Try.prog 8 #[.pointer (some ⟨g, 0, none⟩), .int .i64 ep, .string dir] w (TabP (.tuple #[.int .i64 (next + 1), .int .i64 0]) g room (next + 1) bm (n + 1) (D.put (iOf (next + 1)) (.held (ep, dir, 0))) w) := by
  have c2 := h.blk.cell 2
  have c0 := h.blk.cell 0
  have c1 := h.blk.cell 1
  have f1 := h.blk.frozen 1
  have hm := h.map
  have hlen : ∀ nq ty, (Builtin.len_ #[32] ty #[.map (some bm)]).run Try.prog (w.drewN nq) = .ok (.int .i64 (Maps.size D)) (w.drewN nq) := fun nq ty => (show (w.drewN nq).ownsMap Try.prog 3 (rdr decC) bm n D from hm).len Try.underlying32 ty
  have H := Av.mk h
  clear hm h
  simp at c2 c0 c1
  go_enter Try.func8, Try.ntmps8
  go_wp2
  go_quiet (fail)
  go_wp2
  have HB := Av.mk (show Blk ((w.drewN nq).setCell ⟨g, 1, none⟩ (.int .i64 (next + 1))) g 53 #[.int .i64 room, .int .i64 (next + 1), .map (some bm)] from by simpa using (H.out.blk.drewN nq).set_ 1 (.int .i64 (next + 1)))
  have HM := Av.mk (show ((w.drewN nq).setCell ⟨g, 1, none⟩ (.int .i64 (next + 1))).ownsMap Try.prog 3 (rdr decC) bm n D from (show (w.drewN nq).ownsMap Try.prog 3 (rdr decC) bm n D from H.out.map).setCell (a := ⟨g, 1, none⟩) (map_ne_blk H.out.map H.out.blk) _)
  have HK := Av.mk (show Keep (fun k => k = g ∨ k = bm) w ((w.drewN nq).setCell ⟨g, 1, none⟩ (.int .i64 (next + 1))) from ((Keep.refl _ w).drewN nq).setCell (p := ⟨g, 1, none⟩) (fun _ => .inl rfl) _)
  generalize (w.drewN nq).setCell ⟨g, 1, none⟩ (.int .i64 (next + 1)) = W at HB HM HK ⊢
  have d1 := HB.out.cell 1
  have d2 := HB.out.cell 2
  have hkey := Av.mk (key3 (id := next + 1) (by exact WalkArith.wf_i64 (by omega)))
  simp at d1 d2
  clear c0 c1 c2 f1 hlen
  refine wp_tail 11 (by kernel_rfl) (by kernel_rfl) ?_
  simp only [List.take_succ_cons, List.take_zero, List.drop_succ_cons, List.drop_zero]
  repeat (refine wpStill_step (fun K hK => ?_); go_simp; refine hK _ ?_; clear hK K)
  refine wpStill_nil ?_
  go_wp2_with (first | (at_mapUpdate; refine wpList_store decC rfl _ _ _ 32 rfl 3 37 law3 Try.underlying32 bm n D rfl HM.out hn _ _ _ rfl rfl hkey.out (ep, dir, 0) rfl ?_; intro w2 hown2 hturn2; have HB2 := Av.mk (HB.out.drew.grown hturn2.grown (by simpa using (map_ne_blk HM.out HB.out).symm)); have e1 := HB2.out.cell 1; simp at e1; have HO := Av.mk hown2; have HT := Av.mk hturn2; clear hown2 hturn2))
  go_ret2
  exact ⟨rfl, ⟨HB2.out, HO.out⟩, HK.out.drew.turned HT.out (fun _ => .inr rfl)⟩

end Go.Proofs.Ytjehcdedljckbaa
