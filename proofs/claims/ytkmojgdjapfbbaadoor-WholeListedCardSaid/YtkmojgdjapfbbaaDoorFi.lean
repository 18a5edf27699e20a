/- tree.Find. -/
import Derived.Test.YtkmojgdjapfbbaaDoorBs
namespace Go.Proofs.YtkmojgdjapfbbaaDoor
open Go.RowKit Go.Maps
set_option linter.unusedSimpArgs false
set_option linter.unusedVariables false

/-- The entry of that name. -/
def FindP (B : Nat → Prop) (t : T) (x : ByteArray) (w : World) (e : Ending) (w' : World) : Prop :=
  ∃ (i : Nat) (u : T) (q : NV), t.names[i]? = some x ∧ t.items[i]? = some u ∧ e = .returned (.tuple #[nodeV q u, .bool true]) ∧ Rep B w' q u ∧ Below w.heap.size w w'
theorem one_node {B : Nat → Prop} {w : World} {q : NV} {u : T} (h : Rep B w q u) : ∀ v ∈ nodeC q u, v.oneCell' = true := by
  obtain ⟨An, cn, Ai, ci, Ae, ce, rfl⟩ := h.parts
  intro v hv
  simp only [nodeC, List.mem_cons, List.not_mem_nil, or_false] at hv
  rcases hv with rfl | rfl | rfl | rfl | rfl | rfl | rfl <;> rfl
set_option maxHeartbeats 1000000 in
theorem Find_yes {B : Nat → Prop} {w : World} {p : NV} {t : T} (h : Rep B w p t) (hr : Rising t.names) (hl : t.names.length ≤ 100000000) (hni : t.names.length = t.items.length) (x : ByteArray) (hx : x ∈ t.names) :
    Calls Tryd.prog 28 #[nodeV p t, .string x] w (FindP B t x w) := by
  have hns := h.names
  have his := h.items.bound
  obtain ⟨An, cn, Ai, ci, Ae, ce, rfl⟩ := h.parts
  obtain ⟨k, o, ns, its, sz, ex, tg⟩ := t
  show Calls Tryd.prog 28 #[.agg #[.int .i64 k, .bool o, .slice An ns.length cn, .slice Ai its.length ci, .int .i64 sz, .slice Ae ex.length ce, .string tg], .string x] w _
  simp only [T.names, T.items] at hns his hr hl hni hx
  have HNI := Av.mk hni
  have HX := Av.mk hx
  have HRI := Av.mk hr
  clear h hr hni hx
  go_enter Tryd.func28, Tryd.ntmps28
  go_wp2_with fail
  have hb0 := below_alloc (below_alloc (Below.refl _ w) (.cells #[.int .i64 k, .bool o, .slice An ns.length cn, .slice Ai its.length ci, .int .i64 sz, .slice Ae ex.length ce, .string tg] 33)) (.cells #[.int .i64 0, .bool false, .slice none 0 0, .slice none 0 0, .int .i64 0, .slice none 0 0, .string ⟨#[]⟩] 33)
  have X0 := Av.mk (Blk.new (w.alloc (.cells #[.int .i64 k, .bool o, .slice An ns.length cn, .slice Ai its.length ci, .int .i64 sz, .slice Ae ex.length ce, .string tg] 33)) 33 #[.int .i64 0, .bool false, .slice none 0 0, .slice none 0 0, .int .i64 0, .slice none 0 0, .string ⟨#[]⟩])
  have hsz : (w.alloc (.cells #[.int .i64 k, .bool o, .slice An ns.length cn, .slice Ai its.length ci, .int .i64 sz, .slice Ae ex.length ce, .string tg] 33)).heap.size = w.heap.size + 1 := by simp
  rw [hsz] at X0
  have HNS := Av.mk (hns.grow hb0)
  have HIS := Av.mk (his.grow hb0)
  have HB0 : Av (Bel w ((w.alloc (.cells #[.int .i64 k, .bool o, .slice An ns.length cn, .slice Ai its.length ci, .int .i64 sz, .slice Ae ex.length ce, .string tg] 33)).alloc (.cells #[.int .i64 0, .bool false, .slice none 0 0, .slice none 0 0, .int .i64 0, .slice none 0 0, .string ⟨#[]⟩] 33))) := ⟨hb0⟩
  have Y0 := Av.mk ((Blk.new w 33 #[.int .i64 k, .bool o, .slice An ns.length cn, .slice Ai its.length ci, .int .i64 sz, .slice Ae ex.length ce, .string tg]).alloc (.cells #[.int .i64 0, .bool false, .slice none 0 0, .slice none 0 0, .int .i64 0, .slice none 0 0, .string ⟨#[]⟩] 33))
  clear hns his hb0 hsz
  generalize (w.alloc (.cells #[.int .i64 k, .bool o, .slice An ns.length cn, .slice Ai its.length ci, .int .i64 sz, .slice Ae ex.length ce, .string tg] 33)).alloc (.cells #[.int .i64 0, .bool false, .slice none 0 0, .slice none 0 0, .int .i64 0, .slice none 0 0, .string ⟨#[]⟩] 33) = w1 at *
  refine (Search_calls B w1 An cn ns x HNS.out HRI.out hl).mono ?_
  rintro e _ ⟨i, f, rfl, hf1, hf2, rfl⟩
  cases f
  case false => exact absurd HX.out (hf2 rfl)
  case true =>
    have hxi := hf1 rfl
    have hil : i < its.length := by have := (List.getElem?_eq_some_iff.1 hxi).1; have := HNI.out; omega
    obtain ⟨u, hu⟩ : ∃ u, its[i]? = some u := ⟨_, List.getElem?_eq_getElem hil⟩
    obtain ⟨b, off, q, rfl, hBb, hbl, hcp, c0, c1, c2, c3, c4, c5, c6, hq⟩ := HIS.out.elem hu
    have hone := one_node hq
    obtain ⟨Bn, dn, Bi, di, Be, de, rfl⟩ := hq.parts
    have HQ := Av.mk hq
    have HXI := Av.mk hxi
    have HU := Av.mk hu
    obtain ⟨uk, uo, uns, uits, usz, uex, utg⟩ := u
    simp only [T.kind, T.opq, T.names, T.items, T.size, T.exts, T.target, nodeC] at c0 c1 c2 c3 c4 c5 c6 hone
    have lx := X0.out.lt
    have d2 := Y0.out.cell 2
    have d3 := Y0.out.cell 3
    have ly := Y0.out.lt
    simp at d2 d3
    have hone2 := Av.mk hone
    clear hq hxi hu hf1 hf2 hone
    go_wp2_with (first | (refine wpList_putB rfl 33 (.tmp 4) (.tmp 22) rfl (w.heap.size + 1) 33 _ _ rfl rfl (by kernel_rfl) X0.out rfl (by simpa using hone2.out) ?_; intro w3 hb3 hk3; have HB3 := Av.mk hb3; have HK3 := Av.mk hk3; clear hb3 hk3))
    have e0 := HB3.out.cell 0; have e1 := HB3.out.cell 1; have e2 := HB3.out.cell 2; have e3 := HB3.out.cell 3; have e4 := HB3.out.cell 4; have e5 := HB3.out.cell 5; have e6 := HB3.out.cell 6
    simp at e0 e1 e2 e3 e4 e5 e6
    have hB : Below w.heap.size w w3 := Below.trans HB0.out (HK3.out.below (Nat.le_of_lt ly) (by rintro k rfl; omega))
    refine bodyPost_ret (v := .tuple #[.agg #[.int .i64 uk, .bool uo, .slice Bn uns.length dn, .slice Bi uits.length di, .int .i64 usz, .slice Be uex.length de, .string utg], .bool true]) (by simp [results, Tryd.results28, go_sem, e0, e1, e2, e3, e4, e5, e6]) rfl ?_
    exact ⟨i, _, _, HXI.out, HU.out, rfl, (HQ.out.keep HK3.out (fun k hk e => by have := hk.2; omega)).mono (fun k hk => hk.1), hB⟩
end Go.Proofs.YtkmojgdjapfbbaaDoor
