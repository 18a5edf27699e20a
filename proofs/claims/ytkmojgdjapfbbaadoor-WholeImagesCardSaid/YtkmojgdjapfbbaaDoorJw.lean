/- WholeImages: the walk. -/
import Derived.Test.YtkmojgdjapfbbaaDoorJd
import Derived.Test.YtkmojgdjapfbbaaDoorBk
import Derived.Test.YtkmojgdjapfbbaaDoorOa
import Derived.Deep.RegionHeld3
namespace Go.Proofs.YtkmojgdjapfbbaaDoor
open Go.RowKit Go.Maps
set_option linter.unusedSimpArgs false
set_option linter.unusedVariables false

theorem void_sz : Sz (dirT [] []) :=
  .mk _ (by simp [dirT, T.names]) (by simp [dirT, T.items]) (by simp [dirT, T.exts]) (by simp [dirT, T.names]) (by simp [dirT, T.exts]) (by simp only [dirT, T.target]; exact Nat.zero_le _) (by simp [dirT, T.items])
theorem void_ok : (dirT [] []).small = true ∧ (dirT [] []).may = true := by
  have h1 : nmB none [] = true := rfl
  have e : (⟨#[]⟩ : ByteArray).toList = [] := by rw [toList_eq]
  have e0 : (⟨#[]⟩ : ByteArray).size = 0 := rfl
  constructor
  · unfold T.small
    simp [dirT, T.opq, T.sm, T.smL, own49, xsub, T.names, T.exts, T.target, T.kind, T.all, T.allL, T.one, T.emptyB, T.size, T.items, T.namesOk, nmB, T.count, T.countL, T.depth, T.depthL, wrap64, e, e0]
  · unfold T.may
    simp [dirT, T.opq, T.sm, T.smL, own49, xsub, T.names, T.exts, T.target, T.kind, T.all, T.allL, T.one, T.emptyB, T.size, T.items, T.namesOk, nmB, T.count, T.countL, T.depth, T.depthL, wrap64, e, e0]
theorem void_image : (imageOf (dirT [] [])).size = 11 := by
  rw [imageOf_size]
  show 7 + (T.enc (.node 2 false [] [] 0 [] ⟨#[]⟩)).length = 11
  rw [enc_dir]
  simp [be_length, T.encL]
/-- What an image of a tree that the law looks at does. -/
structure Img (t : T) : Prop where
  eok : Eok t
  fit : Fit PnC PtC t
  right : t.right = true
  all : t.all = true
  wt : t.wt ≤ 400
  count : t.count ≤ 4096
  depth : t.depth ≤ 15
  len : t.enc.length ≤ 800000
theorem Img.of {t : T} (hz : Sz t) (hs : t.small = true) (hm : t.may = true) : Img t := by
  obtain ⟨h1, h2, h3⟩ := T.may_right hz hs hm
  unfold T.may at hm
  simp only [Bool.and_eq_true, decide_eq_true_eq] at hm
  obtain ⟨⟨⟨_, h4⟩, h5⟩, h6⟩ := hm
  have h7 := eok_of t hz h4 (by omega)
  have h8 := enc_len h7
  exact ⟨h7, fit_of t (by omega) h3, h1, h4, h2, h5, h6, by omega⟩
theorem Img.encode {t : T} (h : Img t) {w : World} {p : NV} (hr : Rep (Lt w) w p t) : Calls Tryd.prog 16 #[nodeV p t] w (RetB (.tuple #[.string (imageOf t), .int .i64 0]) w) :=
  Encode_calls hr (fun k hk => hk) h.fit h.right h.eok h.len
theorem Img.open {t : T} (h : Img t) (w : World) : Calls Tryd.prog 19 #[.string (imageOf t)] w (OpenP (t.rows 0) w) :=
  Open_image h.eok h.fit h.right (by have := h.wt; omega) h.count h.depth h.len
theorem Img.back {t : T} (h : Img t) {w : World} {b : Nat} (hb : BrAt w b (t.rows 0)) : Calls Tryd.prog 20 #[.pointer (some ⟨b, 0, none⟩), .int .i64 0] w (NdP t.kind t.opq t.names (T.stripL t.items) t.size t.target (fun _ => False) w) :=
  back_calls t h.all (by have := h.wt; omega) w b 0 (t.rows 0) hb (InTab.root t) (by have := h.count; omega)
theorem Rep.up {w w' : World} {p : NV} {t : T} (h : Rep (Lt w) w p t) (hb : Bel w w') : Rep (Lt w') w' p t := (h.grow hb).mono (fun k hk => Nat.lt_of_lt_of_le hk (Below.size hb))
set_option maxRecDepth 100000 in
set_option maxHeartbeats 4000000 in
theorem Images_calls {w : World} {p : NV} {t : T} (h : Rep (Lt w) w p t) (hz : Sz t) : Calls Tryd.prog 4 #[nodeV p t] w (RetB (.bool true) w) := by
  have HV : Av (∀ (W : World) An cn Ai ci Ae ce, Rep (fun k => k < W.heap.size) W ⟨.slice An 0 cn, .slice Ai 0 ci, .slice Ae 0 ce⟩ (dirT [] []) → Calls Tryd.prog 16 #[.agg #[.int .i64 2, .bool false, .slice An 0 cn, .slice Ai 0 ci, .int .i64 0, .slice Ae 0 ce, .string ⟨#[]⟩]] W (RetB (.tuple #[.string (imageOf (dirT [] [])), .int .i64 0]) W)) :=
    ⟨fun W An cn Ai ci Ae ce hp => by
      have h1 := (Img.of void_sz void_ok.1 void_ok.2).encode (p := ⟨.slice An 0 cn, .slice Ai 0 ci, .slice Ae 0 ce⟩) (w := W) hp
      exact h1⟩
  have hvs := void_image
  generalize imageOf (dirT [] []) = IV at *
  obtain ⟨An, cn, Ai, ci, Ae, ce, rfl⟩ := h.parts
  have HSM : Av (∀ W, Bel w W → Calls Tryd.prog 17 #[nodeV ⟨.slice An t.names.length cn, .slice Ai t.items.length ci, .slice Ae t.exts.length ce⟩ t] W (RetB (.int .i64 (if t.small = true then 1 else 0)) W)) := ⟨fun W hW => Small_calls (h.up hW) (fun k hk => hk) hz⟩
  have HRR : Av (t.small = true → ∀ W, Bel w W → Calls Tryd.prog 18 #[nodeV ⟨.slice An t.names.length cn, .slice Ai t.items.length ci, .slice Ae t.exts.length ce⟩ t] W (RetB (.bool t.may) W)) := ⟨fun hs W hW => RRight_calls (h.up hW) hz hs⟩
  have HIM : Av (t.small = true → t.may = true → Img t) := ⟨fun h1 h2 => Img.of hz h1 h2⟩
  have HREP := Av.mk h
  clear h hz
  have HB1 : Av (Bel w (w.alloc (.cells (nodeC ⟨.slice An t.names.length cn, .slice Ai t.items.length ci, .slice Ae t.exts.length ce⟩ t).toArray 33))) := ⟨below_alloc (Below.refl _ w) _⟩
  have X1 := Av.mk (Blk.new w 33 (nodeC ⟨.slice An t.names.length cn, .slice Ai t.items.length ci, .slice Ae t.exts.length ce⟩ t).toArray)
  cases hs : t.small
  case false =>
    rw [hs] at HSM
    obtain ⟨k, o, ns, its, sz, ex, tg⟩ := t
    replace HB1 : Av (Bel w (w.alloc (.cells #[.int .i64 k, .bool o, .slice An ns.length cn, .slice Ai its.length ci, .int .i64 sz, .slice Ae ex.length ce, .string tg] 33))) := HB1
    replace X1 : Av (Blk (w.alloc (.cells #[.int .i64 k, .bool o, .slice An ns.length cn, .slice Ai its.length ci, .int .i64 sz, .slice Ae ex.length ce, .string tg] 33)) w.heap.size 33 #[.int .i64 k, .bool o, .slice An ns.length cn, .slice Ai its.length ci, .int .i64 sz, .slice Ae ex.length ce, .string tg]) := X1
    replace HSM : Av (∀ W, Bel w W → Calls Tryd.prog 17 #[.agg #[.int .i64 k, .bool o, .slice An ns.length cn, .slice Ai its.length ci, .int .i64 sz, .slice Ae ex.length ce, .string tg]] W (RetB (.int .i64 0) W)) := HSM
    show Calls Tryd.prog 4 #[.agg #[.int .i64 k, .bool o, .slice An ns.length cn, .slice Ai its.length ci, .int .i64 sz, .slice Ae ex.length ce, .string tg]] w _
    clear HRR HIM HREP hs
    go_enter Tryd.func4, Tryd.ntmps4
    go_upto_region 1 with (fail)
    generalize w.alloc (.cells #[.int .i64 k, .bool o, .slice An ns.length cn, .slice Ai its.length ci, .int .i64 sz, .slice Ae ex.length ce, .string tg] 33) = w1 at *
    generalize w.heap.size = g at *
    go_wp2_with fail
    refine (Dir_calls (fun _ => False) w1 none none 0 0 [] [] (Sl.nil _ _ _ none 0) (RepL.nil _ _ none 0) (by simp) (by simp)).mono ?_
    intro e w2 hd
    obtain ⟨En, fn, Ei, fi, Ee, fe, rfl, hrv, hb2⟩ := hd.opened
    have HV2 := Av.mk (HV.out w2 En fn Ei fi Ee fe hrv)
    have HB2 : Av (Bel w w2) := ⟨below_then HB1.out (Below.size HB1.out) hb2⟩
    have X2 := Av.mk (X1.out.keep (Keep.of_below (S := fun _ => False) hb2) (by simp))
    clear hd hrv hb2 HV HB1 X1
    go_wp2_with fail
    refine HV2.out.mono ?_
    rintro e w3 ⟨rfl, hb3⟩
    have HB3 : Av (Bel w w3) := ⟨below_then HB2.out (Below.size HB2.out) hb3⟩
    have X3 := Av.mk (X2.out.keep (Keep.of_below (S := fun _ => False) hb3) (by simp))
    clear hb3 HB2 X2 HV2
    have c0 := X3.out.cell 0; have c1 := X3.out.cell 1; have c2 := X3.out.cell 2; have c3 := X3.out.cell 3; have c4 := X3.out.cell 4; have c5 := X3.out.cell 5; have c6 := X3.out.cell 6
    have lx := X3.out.lt
    simp at c0 c1 c2 c3 c4 c5 c6
    go_wp2_with fail
    refine (HSM.out w3 HB3.out).mono ?_
    rintro e w4 ⟨rfl, hb4⟩
    have HB4 : Av (Bel w w4) := ⟨below_then HB3.out (Below.size HB3.out) hb4⟩
    clear hb4
    go_wp2_with fail
    go_ret
    exact ⟨rfl, HB4.out⟩
  case true =>
    rw [hs] at HSM HRR HIM
    replace HRR := Av.mk (HRR.out rfl)
    replace HIM := Av.mk (HIM.out rfl)
    cases hm : t.may
    case false =>
      rw [hm] at HRR
      obtain ⟨k, o, ns, its, sz, ex, tg⟩ := t
      replace HB1 : Av (Bel w (w.alloc (.cells #[.int .i64 k, .bool o, .slice An ns.length cn, .slice Ai its.length ci, .int .i64 sz, .slice Ae ex.length ce, .string tg] 33))) := HB1
      replace X1 : Av (Blk (w.alloc (.cells #[.int .i64 k, .bool o, .slice An ns.length cn, .slice Ai its.length ci, .int .i64 sz, .slice Ae ex.length ce, .string tg] 33)) w.heap.size 33 #[.int .i64 k, .bool o, .slice An ns.length cn, .slice Ai its.length ci, .int .i64 sz, .slice Ae ex.length ce, .string tg]) := X1
      replace HSM : Av (∀ W, Bel w W → Calls Tryd.prog 17 #[.agg #[.int .i64 k, .bool o, .slice An ns.length cn, .slice Ai its.length ci, .int .i64 sz, .slice Ae ex.length ce, .string tg]] W (RetB (.int .i64 1) W)) := HSM
      replace HRR : Av (∀ W, Bel w W → Calls Tryd.prog 18 #[.agg #[.int .i64 k, .bool o, .slice An ns.length cn, .slice Ai its.length ci, .int .i64 sz, .slice Ae ex.length ce, .string tg]] W (RetB (.bool false) W)) := HRR
      show Calls Tryd.prog 4 #[.agg #[.int .i64 k, .bool o, .slice An ns.length cn, .slice Ai its.length ci, .int .i64 sz, .slice Ae ex.length ce, .string tg]] w _
      clear HIM HREP hs hm
      go_enter Tryd.func4, Tryd.ntmps4
      go_upto_region 1 with (fail)
      generalize w.alloc (.cells #[.int .i64 k, .bool o, .slice An ns.length cn, .slice Ai its.length ci, .int .i64 sz, .slice Ae ex.length ce, .string tg] 33) = w1 at *
      generalize w.heap.size = g at *
      go_wp2_with fail
      refine (Dir_calls (fun _ => False) w1 none none 0 0 [] [] (Sl.nil _ _ _ none 0) (RepL.nil _ _ none 0) (by simp) (by simp)).mono ?_
      intro e w2 hd
      obtain ⟨En, fn, Ei, fi, Ee, fe, rfl, hrv, hb2⟩ := hd.opened
      have HV2 := Av.mk (HV.out w2 En fn Ei fi Ee fe hrv)
      have HB2 : Av (Bel w w2) := ⟨below_then HB1.out (Below.size HB1.out) hb2⟩
      have X2 := Av.mk (X1.out.keep (Keep.of_below (S := fun _ => False) hb2) (by simp))
      clear hd hrv hb2 HV HB1 X1
      go_wp2_with fail
      refine HV2.out.mono ?_
      rintro e w3 ⟨rfl, hb3⟩
      have HB3 : Av (Bel w w3) := ⟨below_then HB2.out (Below.size HB2.out) hb3⟩
      have X3 := Av.mk (X2.out.keep (Keep.of_below (S := fun _ => False) hb3) (by simp))
      clear hb3 HB2 X2 HV2
      have c0 := X3.out.cell 0; have c1 := X3.out.cell 1; have c2 := X3.out.cell 2; have c3 := X3.out.cell 3; have c4 := X3.out.cell 4; have c5 := X3.out.cell 5; have c6 := X3.out.cell 6
      have lx := X3.out.lt
      simp at c0 c1 c2 c3 c4 c5 c6
      go_wp2_with fail
      refine (HSM.out w3 HB3.out).mono ?_
      rintro e w4 ⟨rfl, hb4⟩
      have HB4 : Av (Bel w w4) := ⟨below_then HB3.out (Below.size HB3.out) hb4⟩
      have X4 := Av.mk (X3.out.keep (Keep.of_below (S := fun _ => False) hb4) (by simp))
      clear hb4 HB3 X3 c0 c1 c2 c3 c4 c5 c6 lx
      have c0 := X4.out.cell 0; have c1 := X4.out.cell 1; have c2 := X4.out.cell 2; have c3 := X4.out.cell 3; have c4 := X4.out.cell 4; have c5 := X4.out.cell 5; have c6 := X4.out.cell 6
      have lx := X4.out.lt
      simp at c0 c1 c2 c3 c4 c5 c6
      go_wp2_with fail
      refine (HRR.out w4 HB4.out).mono ?_
      rintro e w5 ⟨rfl, hb5⟩
      have HB5 : Av (Bel w w5) := ⟨below_then HB4.out (Below.size HB4.out) hb5⟩
      clear hb5
      go_wp2_with fail
      go_ret
      exact ⟨rfl, HB5.out⟩
    case true =>
      rw [hm] at HRR HIM
      replace HIM := Av.mk (HIM.out rfl)
      have HEN : Av (∀ W, Bel w W → Calls Tryd.prog 16 #[nodeV ⟨.slice An t.names.length cn, .slice Ai t.items.length ci, .slice Ae t.exts.length ce⟩ t] W (RetB (.tuple #[.string (imageOf t), .int .i64 0]) W)) := ⟨fun W hW => HIM.out.encode (HREP.out.up hW)⟩
      have HOP : Av (∀ W, Calls Tryd.prog 19 #[.string (imageOf t)] W (OpenP (t.rows 0) W)) := ⟨fun W => HIM.out.open W⟩
      have hw6 : t.wt ≤ 1000000 := by have := HIM.out.wt; omega
      have HBK : Av (∀ W b, BrAt W b (t.rows 0) → Calls Tryd.prog 20 #[.pointer (some ⟨b, 0, none⟩), .int .i64 0] W (NdP t.kind t.opq t.names (T.stripL t.items) t.size t.target (fun _ => False) W)) := ⟨fun W b hb => HIM.out.back hb⟩
      have HBC : Av (∀ W b, BrAt W b (t.rows 0) → Calls Tryd.prog 24 #[.pointer (some ⟨b, 0, none⟩)] W (RetB (.int .i64 (t.count : Int)) W)) := ⟨fun W b hb => by
        have h1 := bcount_calls hb
        rw [T.rows_len] at h1
        exact h1⟩
      have HST : Av (∀ W, Bel w W → Calls Tryd.prog 22 #[nodeV ⟨.slice An t.names.length cn, .slice Ai t.items.length ci, .slice Ae t.exts.length ce⟩ t] W (NdP t.kind t.opq t.names (T.stripL t.items) t.size t.target (Lt w) W)) :=
        ⟨fun W hW => strip_calls t hw6 (Lt w) W _ (HREP.out.grow hW) (fun k hk => Nat.lt_of_lt_of_le hk (Below.size hW))⟩
      have HSA : Av (∀ (B B' : Nat → Prop) (W : World) (p p' : NV), Rep B W p (.node t.kind t.opq t.names (T.stripL t.items) t.size [] t.target) → Rep B' W p' (.node t.kind t.opq t.names (T.stripL t.items) t.size [] t.target) → Calls Tryd.prog 21 #[nodeV p (.node t.kind t.opq t.names (T.stripL t.items) t.size [] t.target), nodeV p' (.node t.kind t.opq t.names (T.stripL t.items) t.size [] t.target)] W (RetB (.bool true) W)) := ⟨by
        have h1 := same_calls t HIM.out.all hw6
        rw [T.strip_eq] at h1
        exact h1⟩
      have HCN : Av (∀ (B : Nat → Prop) (W : World) (p : NV), Rep B W p (.node t.kind t.opq t.names (T.stripL t.items) t.size [] t.target) → Calls Tryd.prog 23 #[nodeV p (.node t.kind t.opq t.names (T.stripL t.items) t.size [] t.target)] W (RetB (.int .i64 (t.count : Int)) W)) := ⟨by
        have h1 := count_calls t.strip (by rw [T.strip_count]; have := HIM.out.count; omega)
        unfold CountC at h1
        rw [T.strip_count, T.strip_eq] at h1
        exact h1⟩
      generalize T.rows 0 t = xs at *
      generalize imageOf t = IM at *
      generalize T.count t = cnt at *
      clear hw6 HIM HREP hs hm
      obtain ⟨k, o, ns, its, sz, ex, tg⟩ := t
      replace HB1 : Av (Bel w (w.alloc (.cells #[.int .i64 k, .bool o, .slice An ns.length cn, .slice Ai its.length ci, .int .i64 sz, .slice Ae ex.length ce, .string tg] 33))) := HB1
      replace X1 : Av (Blk (w.alloc (.cells #[.int .i64 k, .bool o, .slice An ns.length cn, .slice Ai its.length ci, .int .i64 sz, .slice Ae ex.length ce, .string tg] 33)) w.heap.size 33 #[.int .i64 k, .bool o, .slice An ns.length cn, .slice Ai its.length ci, .int .i64 sz, .slice Ae ex.length ce, .string tg]) := X1
      replace HSM : Av (∀ W, Bel w W → Calls Tryd.prog 17 #[.agg #[.int .i64 k, .bool o, .slice An ns.length cn, .slice Ai its.length ci, .int .i64 sz, .slice Ae ex.length ce, .string tg]] W (RetB (.int .i64 1) W)) := HSM
      replace HRR : Av (∀ W, Bel w W → Calls Tryd.prog 18 #[.agg #[.int .i64 k, .bool o, .slice An ns.length cn, .slice Ai its.length ci, .int .i64 sz, .slice Ae ex.length ce, .string tg]] W (RetB (.bool true) W)) := HRR
      replace HEN : Av (∀ W, Bel w W → Calls Tryd.prog 16 #[.agg #[.int .i64 k, .bool o, .slice An ns.length cn, .slice Ai its.length ci, .int .i64 sz, .slice Ae ex.length ce, .string tg]] W (RetB (.tuple #[.string IM, .int .i64 0]) W)) := HEN
      show Calls Tryd.prog 4 #[.agg #[.int .i64 k, .bool o, .slice An ns.length cn, .slice Ai its.length ci, .int .i64 sz, .slice Ae ex.length ce, .string tg]] w _
      simp only [T.kind, T.opq, T.names, T.items, T.size, T.target] at HBK HST HSA HCN
      generalize T.stripL its = sl at *
      replace HST : Av (∀ W, Bel w W → Calls Tryd.prog 22 #[.agg #[.int .i64 k, .bool o, .slice An ns.length cn, .slice Ai its.length ci, .int .i64 sz, .slice Ae ex.length ce, .string tg]] W (NdP k o ns sl sz tg (Lt w) W)) := HST
      replace HSA : Av (∀ (W : World) (B B' : Nat → Prop) Bn dn Bi di Cn en Ci ei, Rep B W ⟨.slice Bn ns.length dn, .slice Bi sl.length di, .slice none 0 0⟩ (.node k o ns sl sz [] tg) → Rep B' W ⟨.slice Cn ns.length en, .slice Ci sl.length ei, .slice none 0 0⟩ (.node k o ns sl sz [] tg) →
        Calls Tryd.prog 21 #[.agg #[.int .i64 k, .bool o, .slice Bn ns.length dn, .slice Bi sl.length di, .int .i64 sz, .slice none 0 0, .string tg], .agg #[.int .i64 k, .bool o, .slice Cn ns.length en, .slice Ci sl.length ei, .int .i64 sz, .slice none 0 0, .string tg]] W (RetB (.bool true) W)) := ⟨fun W B B' Bn dn Bi di Cn en Ci ei h1 h2 => by
          have h3 := HSA.out B B' W _ _ h1 h2
          exact h3⟩
      replace HCN : Av (∀ (W : World) (B : Nat → Prop) Bn dn Bi di, Rep B W ⟨.slice Bn ns.length dn, .slice Bi sl.length di, .slice none 0 0⟩ (.node k o ns sl sz [] tg) → Calls Tryd.prog 23 #[.agg #[.int .i64 k, .bool o, .slice Bn ns.length dn, .slice Bi sl.length di, .int .i64 sz, .slice none 0 0, .string tg]] W (RetB (.int .i64 (cnt : Int)) W)) := ⟨fun W B Bn dn Bi di h1 => by
          have h3 := HCN.out B W _ h1
          exact h3⟩
      go_enter Tryd.func4, Tryd.ntmps4
      go_upto_region 1 with (fail)
      generalize w.alloc (.cells #[.int .i64 k, .bool o, .slice An ns.length cn, .slice Ai its.length ci, .int .i64 sz, .slice Ae ex.length ce, .string tg] 33) = w1 at *
      generalize w.heap.size = g at *
      go_wp2_with fail
      refine (Dir_calls (fun _ => False) w1 none none 0 0 [] [] (Sl.nil _ _ _ none 0) (RepL.nil _ _ none 0) (by simp) (by simp)).mono ?_
      intro e w2 hd
      obtain ⟨En, fn, Ei, fi, Ee, fe, rfl, hrv, hb2⟩ := hd.opened
      have HV2 := Av.mk (HV.out w2 En fn Ei fi Ee fe hrv)
      have HB2 : Av (Bel w w2) := ⟨below_then HB1.out (Below.size HB1.out) hb2⟩
      have X2 := Av.mk (X1.out.keep (Keep.of_below (S := fun _ => False) hb2) (by simp))
      clear hd hrv hb2 HV HB1 X1
      go_wp2_with fail
      refine HV2.out.mono ?_
      rintro e w3 ⟨rfl, hb3⟩
      have HB3 : Av (Bel w w3) := ⟨below_then HB2.out (Below.size HB2.out) hb3⟩
      have X3 := Av.mk (X2.out.keep (Keep.of_below (S := fun _ => False) hb3) (by simp))
      clear hb3 HB2 X2 HV2
      have c0 := X3.out.cell 0; have c1 := X3.out.cell 1; have c2 := X3.out.cell 2; have c3 := X3.out.cell 3; have c4 := X3.out.cell 4; have c5 := X3.out.cell 5; have c6 := X3.out.cell 6
      have lx := X3.out.lt
      simp at c0 c1 c2 c3 c4 c5 c6
      go_wp2_with fail
      refine (HSM.out w3 HB3.out).mono ?_
      rintro e w4 ⟨rfl, hb4⟩
      have HB4 : Av (Bel w w4) := ⟨below_then HB3.out (Below.size HB3.out) hb4⟩
      have X4 := Av.mk (X3.out.keep (Keep.of_below (S := fun _ => False) hb4) (by simp))
      clear hb4 HB3 X3 c0 c1 c2 c3 c4 c5 c6 lx HSM
      have c0 := X4.out.cell 0; have c1 := X4.out.cell 1; have c2 := X4.out.cell 2; have c3 := X4.out.cell 3; have c4 := X4.out.cell 4; have c5 := X4.out.cell 5; have c6 := X4.out.cell 6
      have lx := X4.out.lt
      simp at c0 c1 c2 c3 c4 c5 c6
      go_wp2_with fail
      refine (HRR.out w4 HB4.out).mono ?_
      rintro e w5 ⟨rfl, hb5⟩
      have HB5 : Av (Bel w w5) := ⟨below_then HB4.out (Below.size HB4.out) hb5⟩
      have X5 := Av.mk (X4.out.keep (Keep.of_below (S := fun _ => False) hb5) (by simp))
      clear hb5 HB4 X4 c0 c1 c2 c3 c4 c5 c6 lx HRR
      have c0 := X5.out.cell 0; have c1 := X5.out.cell 1; have c2 := X5.out.cell 2; have c3 := X5.out.cell 3; have c4 := X5.out.cell 4; have c5 := X5.out.cell 5; have c6 := X5.out.cell 6
      have lx := X5.out.lt
      simp at c0 c1 c2 c3 c4 c5 c6
      go_wp2_with fail
      refine (HEN.out w5 HB5.out).mono ?_
      rintro e w6 ⟨rfl, hb6⟩
      have HB6 : Av (Bel w w6) := ⟨below_then HB5.out (Below.size HB5.out) hb6⟩
      have X6 := Av.mk (X5.out.keep (Keep.of_below (S := fun _ => False) hb6) (by simp))
      clear hb6 HB5 X5 c0 c1 c2 c3 c4 c5 c6 lx HEN
      go_wp2_with fail
      refine (HOP.out w6).mono ?_
      rintro e w7 ⟨b, rfl, hbr, hb7⟩
      have HB7 : Av (Bel w w7) := ⟨below_then HB6.out (Below.size HB6.out) hb7⟩
      have X7 := Av.mk (X6.out.keep (Keep.of_below (S := fun _ => False) hb7) (by simp))
      have BR7 := Av.mk hbr
      clear hb7 hbr HB6 X6 HOP
      go_wp2_with fail
      refine (HBK.out w7 b BR7.out).mono ?_
      rintro e w8 ⟨Bn, dn, Bi, di, rfl, hrep, hb8⟩
      have hb9 : Bel w7 (w8.alloc (.cells #[.int .i64 k, .bool o, .slice Bn ns.length dn, .slice Bi sl.length di, .int .i64 sz, .slice none 0 0, .string tg] 33)) := below_then hb8 (Below.size hb8) (below_alloc (Below.refl _ w8) _)
      have HB9 : Av (Bel w (w8.alloc (.cells #[.int .i64 k, .bool o, .slice Bn ns.length dn, .slice Bi sl.length di, .int .i64 sz, .slice none 0 0, .string tg] 33))) := ⟨below_then HB7.out (Below.size HB7.out) hb9⟩
      have X9 := Av.mk (X7.out.keep (Keep.of_below (S := fun _ => False) hb9) (by simp))
      have BR9 := Av.mk (BR7.out.grow hb9)
      have P9 := Av.mk (hrep.grow (below_alloc (Below.refl _ w8) (.cells #[.int .i64 k, .bool o, .slice Bn ns.length dn, .slice Bi sl.length di, .int .i64 sz, .slice none 0 0, .string tg] 33)))
      have Y9 := Av.mk (Blk.new w8 33 #[.int .i64 k, .bool o, .slice Bn ns.length dn, .slice Bi sl.length di, .int .i64 sz, .slice none 0 0, .string tg])
      clear hrep hb8 hb9 HB7 X7 BR7 HBK
      go_upto_region 11 with (fail)
      generalize w8.alloc (.cells #[.int .i64 k, .bool o, .slice Bn ns.length dn, .slice Bi sl.length di, .int .i64 sz, .slice none 0 0, .string tg] 33) = w9 at *
      generalize w8.heap.size = g9 at *
      have c0 := X9.out.cell 0; have c1 := X9.out.cell 1; have c2 := X9.out.cell 2; have c3 := X9.out.cell 3; have c4 := X9.out.cell 4; have c5 := X9.out.cell 5; have c6 := X9.out.cell 6
      have lx := X9.out.lt
      have d0 := Y9.out.cell 0; have d1 := Y9.out.cell 1; have d2 := Y9.out.cell 2; have d3 := Y9.out.cell 3; have d4 := Y9.out.cell 4; have d5 := Y9.out.cell 5; have d6 := Y9.out.cell 6
      have ly := Y9.out.lt
      simp at c0 c1 c2 c3 c4 c5 c6 d0 d1 d2 d3 d4 d5 d6
      have HSS : Av (∀ W, Bel w9 W → (W.cell? ⟨g, 0, none⟩ = some (.int .i64 k) ∧ W.cell? ⟨g, 1, none⟩ = some (.bool o) ∧ W.cell? ⟨g, 2, none⟩ = some (.slice An ns.length cn) ∧ W.cell? ⟨g, 3, none⟩ = some (.slice Ai its.length ci) ∧ W.cell? ⟨g, 4, none⟩ = some (.int .i64 sz) ∧ W.cell? ⟨g, 5, none⟩ = some (.slice Ae ex.length ce) ∧ W.cell? ⟨g, 6, none⟩ = some (.string tg) ∧
        W.cell? ⟨g9, 0, none⟩ = some (.int .i64 k) ∧ W.cell? ⟨g9, 1, none⟩ = some (.bool o) ∧ W.cell? ⟨g9, 2, none⟩ = some (.slice Bn ns.length dn) ∧ W.cell? ⟨g9, 3, none⟩ = some (.slice Bi sl.length di) ∧ W.cell? ⟨g9, 4, none⟩ = some (.int .i64 sz) ∧ W.cell? ⟨g9, 5, none⟩ = some (.slice none 0 0) ∧ W.cell? ⟨g9, 6, none⟩ = some (.string tg))) := ⟨fun W hW => by
          have x := X9.out.keep (Keep.of_below (S := fun _ => False) hW) (by simp)
          have y := Y9.out.keep (Keep.of_below (S := fun _ => False) hW) (by simp)
          exact ⟨x.cell 0, x.cell 1, x.cell 2, x.cell 3, x.cell 4, x.cell 5, x.cell 6, y.cell 0, y.cell 1, y.cell 2, y.cell 3, y.cell 4, y.cell 5, y.cell 6⟩⟩
      have H22 : Av (∀ W, Bel w9 W → Calls Tryd.prog 22 #[.agg #[.int .i64 k, .bool o, .slice An ns.length cn, .slice Ai its.length ci, .int .i64 sz, .slice Ae ex.length ce, .string tg]] W (NdP k o ns sl sz tg (Lt w) W)) := ⟨fun W hW => HST.out W (below_then HB9.out (Below.size HB9.out) hW)⟩
      have H21 : Av (∀ W B Cn en Ci ei, Bel w9 W → Rep B W ⟨.slice Cn ns.length en, .slice Ci sl.length ei, .slice none 0 0⟩ (.node k o ns sl sz [] tg) → Calls Tryd.prog 21 #[.agg #[.int .i64 k, .bool o, .slice Bn ns.length dn, .slice Bi sl.length di, .int .i64 sz, .slice none 0 0, .string tg], .agg #[.int .i64 k, .bool o, .slice Cn ns.length en, .slice Ci sl.length ei, .int .i64 sz, .slice none 0 0, .string tg]] W (RetB (.bool true) W)) := ⟨fun W B Cn en Ci ei hW h2 => HSA.out W _ B Bn dn Bi di Cn en Ci ei (P9.out.grow hW) h2⟩
      have H23 : Av (∀ W, Bel w9 W → Calls Tryd.prog 23 #[.agg #[.int .i64 k, .bool o, .slice Bn ns.length dn, .slice Bi sl.length di, .int .i64 sz, .slice none 0 0, .string tg]] W (RetB (.int .i64 (cnt : Int)) W)) := ⟨fun W hW => HCN.out W _ Bn dn Bi di (P9.out.grow hW)⟩
      have H24 : Av (∀ W, Bel w9 W → Calls Tryd.prog 24 #[.pointer (some ⟨b, 0, none⟩)] W (RetB (.int .i64 (cnt : Int)) W)) := ⟨fun W hW => HBC.out W b (BR9.out.grow hW)⟩
      clear HST HSA HCN HBC P9 BR9 X9 Y9
      go_region_held3 (fun W => W.cell? ⟨g, 0, none⟩ = some (.int .i64 k) ∧ W.cell? ⟨g, 1, none⟩ = some (.bool o) ∧ W.cell? ⟨g, 2, none⟩ = some (.slice An ns.length cn) ∧ W.cell? ⟨g, 3, none⟩ = some (.slice Ai its.length ci) ∧ W.cell? ⟨g, 4, none⟩ = some (.int .i64 sz) ∧ W.cell? ⟨g, 5, none⟩ = some (.slice Ae ex.length ce) ∧ W.cell? ⟨g, 6, none⟩ = some (.string tg) ∧ W.cell? ⟨g9, 0, none⟩ = some (.int .i64 k) ∧ W.cell? ⟨g9, 1, none⟩ = some (.bool o) ∧ W.cell? ⟨g9, 2, none⟩ = some (.slice Bn ns.length dn) ∧ W.cell? ⟨g9, 3, none⟩ = some (.slice Bi sl.length di) ∧ W.cell? ⟨g9, 4, none⟩ = some (.int .i64 sz) ∧ W.cell? ⟨g9, 5, none⟩ = some (.slice none 0 0) ∧ W.cell? ⟨g9, 6, none⟩ = some (.string tg))
        (first | exact HSS.out _ HB24.out | exact HSS.out _ HB23.out | exact HSS.out _ HB21.out | exact HSS.out _ HB22.out | exact HSS.out _ (bel_drew _) | exact HSS.out _ (Below.refl _ _) | go_keep)
        (first
        | (go_at_call 24
           first | refine Calls.mono (H24.out _ HB23.out) ?_ | refine Calls.mono (H24.out _ HB21.out) ?_
           rintro e wd ⟨rfl, hbd⟩
           have HB24 : Av (Bel w9 wd) := by first | exact ⟨below_then HB23.out (Below.size HB23.out) hbd⟩ | exact ⟨below_then HB21.out (Below.size HB21.out) hbd⟩
           clear hbd)
        | (go_at_call 23
           first | refine Calls.mono (H23.out _ HB24.out) ?_ | refine Calls.mono (H23.out _ HB21.out) ?_
           rintro e wc ⟨rfl, hbc⟩
           have HB23 : Av (Bel w9 wc) := by first | exact ⟨below_then HB24.out (Below.size HB24.out) hbc⟩ | exact ⟨below_then HB21.out (Below.size HB21.out) hbc⟩
           clear hbc)
        | (go_at_call 21
           refine Calls.mono (H21.out _ _ Cn en Ci ei HB22.out P22.out) ?_
           rintro e wb ⟨rfl, hbb⟩
           have HB21 : Av (Bel w9 wb) := ⟨below_then HB22.out (Below.size HB22.out) hbb⟩
           clear hbb)
        | (go_at_call 22
           refine Calls.mono (H22.out _ (bel_drew _)) ?_
           rintro e wa ⟨Cn, en, Ci, ei, rfl, hrep, hba⟩
           have HB22 : Av (Bel w9 wa) := ⟨below_then (bel_drew w9) (Below.size (bel_drew w9)) hba⟩
           have P22 := Av.mk hrep
           clear hrep hba))
      all_goals
        go_wp2_with fail
        go_ret
        first
        | exact ⟨rfl, below_then HB9.out (Below.size HB9.out) HB24.out⟩
        | exact ⟨rfl, below_then HB9.out (Below.size HB9.out) HB23.out⟩
end Go.Proofs.YtkmojgdjapfbbaaDoor
