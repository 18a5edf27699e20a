/- image.Decode of an image, branch.Open. -/
import Derived.Test.YtkmojgdjapfbbaaDoorIz
import Derived.Test.YtkmojgdjapfbbaaDoorEnc
import Derived.Test.YtkmojgdjapfbbaaDoorBb
import Derived.Test.YtkmojgdjapfbbaaDoorOt
namespace Go.Proofs.YtkmojgdjapfbbaaDoor
open Go.RowKit Go.Maps
set_option linter.unusedSimpArgs false
set_option linter.unusedVariables false

def DecP (uk : Int) (uo : Bool) (uns : List ByteArray) (uits : List T) (usz : Int) (uex : List IExt) (utg : ByteArray) (w : World) (e : Ending) (w' : World) : Prop :=
  ∃ An cn Ai ci Ae ce, e = .returned (.tuple #[.agg #[.int .i64 uk, .bool uo, .slice An uns.length cn, .slice Ai uits.length ci, .int .i64 usz, .slice Ae uex.length ce, .string utg], .int .i64 0]) ∧
    Rep (Lt w') w' ⟨.slice An uns.length cn, .slice Ai uits.length ci, .slice Ae uex.length ce⟩ (.node uk uo uns uits usz uex utg) ∧ Bel w w'
theorem image_list (t : T) : imageOf t = stOf ([115, 111, 99, 97, 103, 101, 49] ++ t.enc) := ByteArray.ext (by simp [imageOf, stOf])
theorem image_first (t : T) : (imageOf t).extract 0 7 = magic := by
  rw [image_list, stOf_extract]; rfl
theorem image_rest (t : T) : (imageOf t).extract 7 (7 + t.enc.length) = stOf t.enc := by
  rw [image_list, stOf_extract, List.take_of_length_le (by simp; omega)]; rfl
set_option maxRecDepth 100000 in
set_option maxHeartbeats 4000000 in
theorem Decode_calls (w : World) (uk : Int) (uo : Bool) (uns : List ByteArray) (uits : List T) (usz : Int) (uex : List IExt) (utg : ByteArray) (IM : ByteArray) (en : List UInt8) (cnt : Nat)
    (hsz : IM.size = 7 + en.length) (hx1 : IM.extract 0 7 = magic) (hx2 : IM.extract 7 (7 + en.length) = stOf en) (hl : en.length ≤ 800000)
    (hn : ∀ (W : World) (r x : Nat), Rr W r x (stOf en) 4096 → Calls Tryd.prog 77 #[.pointer (some ⟨r, 0, none⟩), .int .i64 0] W (NodeP r x uk uo uns uits usz uex utg [] (4096 - cnt) W))
    (hr : ∀ (W : World) An cn Ai ci Ae ce, Rep (Lt W) W ⟨.slice An uns.length cn, .slice Ai uits.length ci, .slice Ae uex.length ce⟩ (.node uk uo uns uits usz uex utg) → Calls Tryd.prog 27 #[.agg #[.int .i64 uk, .bool uo, .slice An uns.length cn, .slice Ai uits.length ci, .int .i64 usz, .slice Ae uex.length ce, .string utg]] W (RetB (.bool true) W)) :
    Calls Tryd.prog 53 #[.string IM] w (DecP uk uo uns uits usz uex utg w) := by
  have HN := Av.mk hn
  have HR := Av.mk hr
  clear hn hr
  have Z0 := Av.mk (Blk.new w 33 #[.int .i64 0, .bool false, .slice none 0 0, .slice none 0 0, .int .i64 0, .slice none 0 0, .string ⟨#[]⟩])
  have HB0 : Av (Bel w (w.alloc (.cells #[.int .i64 0, .bool false, .slice none 0 0, .slice none 0 0, .int .i64 0, .slice none 0 0, .string ⟨#[]⟩] 33))) := ⟨below_alloc (Below.refl _ w) _⟩
  go_enter Tryd.func53, Tryd.ntmps53
  go_upto_region 1 with (fail)
  generalize w.alloc (.cells #[.int .i64 0, .bool false, .slice none 0 0, .slice none 0 0, .int .i64 0, .slice none 0 0, .string ⟨#[]⟩] 33) = w1 at *
  generalize hg : w.heap.size = g at *
  have HG := Av.mk hg
  clear hg
  go_upto_region 3 with (fail)
  go_wp2_with fail
  refine (WRead_calls (stOf en) w1).mono ?_
  rintro e w2 ⟨rfl, rfl⟩
  have X2 : Av (Rd (w1.alloc (.cells #[.string (stOf en)] 165)) w1.heap.size (stOf en)) := ⟨Blk.new w1 165 _⟩
  have Z2 := Av.mk (Z0.out.alloc (.cells #[.string (stOf en)] 165))
  have HB2 : Av (Bel w (w1.alloc (.cells #[.string (stOf en)] 165))) := ⟨HB0.out.alloc (Below.size HB0.out) _⟩
  have hxg : g ≤ w1.heap.size := by rw [← HG.out]; exact Below.size HB0.out
  clear Z0 HB0
  generalize w1.alloc (.cells #[.string (stOf en)] 165) = w2 at *
  generalize w1.heap.size = x at *
  go_upto_region 4 with (fail)
  have R3 : Av (Rr (w2.alloc (.cells #[.pointer (some ⟨x, 0, none⟩), .bool false, .int .i64 4096] 146)) w2.heap.size x (stOf en) 4096) := ⟨Blk.new w2 146 _, Blk.alloc X2.out _⟩
  have Z3 := Av.mk (Z2.out.alloc (.cells #[.pointer (some ⟨x, 0, none⟩), .bool false, .int .i64 4096] 146))
  have HB3 : Av (Bel w (w2.alloc (.cells #[.pointer (some ⟨x, 0, none⟩), .bool false, .int .i64 4096] 146))) := ⟨HB2.out.alloc (Below.size HB2.out) _⟩
  have hrg : g ≤ w2.heap.size := by rw [← HG.out]; exact Below.size HB2.out
  clear Z2 HB2 X2
  generalize w2.alloc (.cells #[.pointer (some ⟨x, 0, none⟩), .bool false, .int .i64 4096] 146) = w3 at *
  generalize w2.heap.size = r at *
  go_wp2_with fail
  refine (HN.out w3 r x R3.out).mono ?_
  rintro e w4 ⟨An, cn, Ai, ci, Ae, ce, rfl, hrep, hr4, hk4⟩
  have hg3 := Z3.out.lt
  have hp4 := hrep.mono (B' := fun k => g < k) (fun k hk => Nat.lt_of_lt_of_le hg3 hk)
  have hne1 : r ≠ g := fun e => by have := R3.out.blk.ne_ Z3.out (by decide); exact this e
  have hne2 : x ≠ g := fun e => by have := Blk.ne_ R3.out.rd Z3.out (by decide); exact this e
  have hb4 : Bel w w4 := by
    have h1 : Below w.heap.size w w3 := HB3.out
    have h2 := HG.out
    exact h1.trans (hk4.below (by rw [h2]; have := Z3.out.lt; omega) (by rintro k (h | h) <;> omega))
  have HB5 : Av (Bel w (w4.alloc (.cells #[.int .i64 uk, .bool uo, .slice An uns.length cn, .slice Ai uits.length ci, .int .i64 usz, .slice Ae uex.length ce, .string utg] 33))) := ⟨hb4.alloc (Below.size hb4) _⟩
  have P5 : Av (Rep (fun k => g < k) (w4.alloc (.cells #[.int .i64 uk, .bool uo, .slice An uns.length cn, .slice Ai uits.length ci, .int .i64 usz, .slice Ae uex.length ce, .string utg] 33)) ⟨.slice An uns.length cn, .slice Ai uits.length ci, .slice Ae uex.length ce⟩ (.node uk uo uns uits usz uex utg)) :=
    ⟨hp4.grow (below_alloc (Below.refl _ w4) (.cells #[.int .i64 uk, .bool uo, .slice An uns.length cn, .slice Ai uits.length ci, .int .i64 usz, .slice Ae uex.length ce, .string utg] 33))⟩
  have R5 := Av.mk (hr4.grow (below_alloc (Below.refl _ w4) (.cells #[.int .i64 uk, .bool uo, .slice An uns.length cn, .slice Ai uits.length ci, .int .i64 usz, .slice Ae uex.length ce, .string utg] 33)))
  have Y5 := Av.mk (Blk.new w4 33 #[.int .i64 uk, .bool uo, .slice An uns.length cn, .slice Ai uits.length ci, .int .i64 usz, .slice Ae uex.length ce, .string utg])
  have Z5 := Av.mk ((Z3.out.keep hk4 (by rintro (h | h); exact hne1 h.symm; exact hne2 h.symm)).alloc (.cells #[.int .i64 uk, .bool uo, .slice An uns.length cn, .slice Ai uits.length ci, .int .i64 usz, .slice Ae uex.length ce, .string utg] 33))
  clear hrep hr4 hk4 hp4 hb4 R3 Z3 HB3 HN
  go_upto_region 5 with (fail)
  generalize w4.alloc (.cells #[.int .i64 uk, .bool uo, .slice An uns.length cn, .slice Ai uits.length ci, .int .i64 usz, .slice Ae uex.length ce, .string utg] 33) = w5 at *
  generalize w4.heap.size = y at *
  have a0 := R5.out.blk.cell 0; have a1 := R5.out.blk.cell 1
  have lr := R5.out.blk.lt
  have c0 := Y5.out.cell 0; have c1 := Y5.out.cell 1; have c2 := Y5.out.cell 2; have c3 := Y5.out.cell 3; have c4 := Y5.out.cell 4; have c5 := Y5.out.cell 5; have c6 := Y5.out.cell 6
  have ly := Y5.out.lt
  simp at a0 a1 c0 c1 c2 c3 c4 c5 c6
  have hs0 : (stOf []).size = 0 := rfl
  go_wp2_with fail
  refine (Left_calls x (stOf []) w5 R5.out.rd).mono ?_
  rintro e _ ⟨rfl, rfl⟩
  go_wp2_with fail
  refine (HR.out w5 An cn Ai ci Ae ce (P5.out.bound.mono (fun k hk => hk.2))).mono ?_
  rintro e w6 ⟨rfl, hb6⟩
  have HB6 : Av (Bel w w6) := ⟨below_then HB5.out (Below.size HB5.out) hb6⟩
  have P6 := Av.mk (P5.out.grow hb6)
  have Y6 := Av.mk (Y5.out.keep (Keep.of_below (S := fun _ => False) hb6) (by simp))
  have Z6 := Av.mk (Z5.out.keep (Keep.of_below (S := fun _ => False) hb6) (by simp))
  clear hb6 a0 a1 lr c0 c1 c2 c3 c4 c5 c6 ly R5 Y5 Z5 P5 HB5
  have c0 := Y6.out.cell 0; have c1 := Y6.out.cell 1; have c2 := Y6.out.cell 2; have c3 := Y6.out.cell 3; have c4 := Y6.out.cell 4; have c5 := Y6.out.cell 5; have c6 := Y6.out.cell 6
  have ly := Y6.out.lt
  simp at c0 c1 c2 c3 c4 c5 c6
  go_wp2_with (first | (refine wpList_putB rfl 33 (.tmp 2) (.tmp 45) rfl g 33 _ _ rfl rfl (by kernel_rfl) Z6.out rfl (by simp [Value.oneCell']) ?_; intro w9 hb9 hk9; have HB9 := Av.mk hb9; have HK9 := Av.mk hk9; clear hb9 hk9))
  have e0 := HB9.out.cell 0; have e1 := HB9.out.cell 1; have e2 := HB9.out.cell 2; have e3 := HB9.out.cell 3; have e4 := HB9.out.cell 4; have e5 := HB9.out.cell 5; have e6 := HB9.out.cell 6
  simp at e0 e1 e2 e3 e4 e5 e6
  refine bodyPost_ret (v := .tuple #[.agg #[.int .i64 uk, .bool uo, .slice An uns.length cn, .slice Ai uits.length ci, .int .i64 usz, .slice Ae uex.length ce, .string utg], .int .i64 0]) (by simp [results, Tryd.results53, go_sem, e0, e1, e2, e3, e4, e5, e6]) rfl ?_
  have hb9 : Bel w w9 := by
    have h1 : Below w.heap.size w w6 := HB6.out
    have h2 := HG.out
    exact h1.trans (HK9.out.below (by rw [h2]; have := Z6.out.lt; omega) (by rintro k rfl; omega))
  exact ⟨An, cn, Ai, ci, Ae, ce, rfl, (P6.out.keep HK9.out (fun k hk e => by omega)).bound.mono (fun k hk => hk.2), hb9⟩
/-- An image, read, is the tree that it was made of. -/
theorem Decode_image {w : World} {t : T} (he : Eok t) (hf : Fit PnC PtC t) (hr : t.right = true) (hc : t.count ≤ 4096) (hd : t.depth ≤ 15) (hl : t.enc.length ≤ 800000) :
    Calls Tryd.prog 53 #[.string (imageOf t)] w (DecP t.kind t.opq t.names t.items t.size t.exts t.target w) := by
  refine Decode_calls w _ _ _ _ _ _ _ _ t.enc t.count (imageOf_size t) (image_first t) (image_rest t) hl (fun W r x hW => ?_) (fun W An cn Ai ci Ae ce hp => ?_)
  · have hn := node_calls he
    obtain ⟨k, o, ns, its, sz, ex, tg⟩ := t
    exact hn W r x [] 0 4096 (by rw [List.append_nil]; exact hW) (by rw [List.append_nil]; omega) (by omega) (by omega) (by omega) (by omega)
  · have h1 := Right_calls (B := Lt W) (w := W) (p := ⟨.slice An t.names.length cn, .slice Ai t.items.length ci, .slice Ae t.exts.length ce⟩) (t := t) (by obtain ⟨k, o, ns, its, sz, ex, tg⟩ := t; exact hp) (fun k hk => hk) hf
    rw [hr] at h1
    obtain ⟨k, o, ns, its, sz, ex, tg⟩ := t
    exact h1
def OpenP (xs : List Ino) (w : World) (e : Ending) (w' : World) : Prop := ∃ b, e = .returned (.tuple #[.pointer (some ⟨b, 0, none⟩), .int .i64 0]) ∧ BrAt w' b xs ∧ Bel w w'
set_option maxRecDepth 100000 in
set_option maxHeartbeats 4000000 in
theorem Open_image {w : World} {t : T} (he : Eok t) (hf : Fit PnC PtC t) (hr : t.right = true) (hw : t.wt ≤ 1000000) (hc : t.count ≤ 4096) (hd : t.depth ≤ 15) (hl : t.enc.length ≤ 800000) :
    Calls Tryd.prog 19 #[.string (imageOf t)] w (OpenP (t.rows 0) w) := by
  have HD := Av.mk (Decode_image (w := w) he hf hr hc hd hl)
  have HN : Av (∀ (W : World) An cn Ai ci Ae ce, Rep (Lt W) W ⟨.slice An t.names.length cn, .slice Ai t.items.length ci, .slice Ae t.exts.length ce⟩ (.node t.kind t.opq t.names t.items t.size t.exts t.target) →
      Calls Tryd.prog 54 #[.agg #[.int .i64 t.kind, .bool t.opq, .slice An t.names.length cn, .slice Ai t.items.length ci, .int .i64 t.size, .slice Ae t.exts.length ce, .string t.target]] W (NewP (t.rows 0) W)) := ⟨fun W An cn Ai ci Ae ce hp => by
    have h1 := New_calls (B := Lt W) (w := W) (p := ⟨.slice An t.names.length cn, .slice Ai t.items.length ci, .slice Ae t.exts.length ce⟩) (t := t) (by obtain ⟨k, o, ns, its, sz, ex, tg⟩ := t; exact hp) (fun k hk => hk) hf hr hw
    obtain ⟨k, o, ns, its, sz, ex, tg⟩ := t
    exact h1⟩
  generalize T.rows 0 t = xs at *
  generalize imageOf t = IM at *
  clear he hf hr hw hc hd hl
  obtain ⟨k, o, ns, its, sz, ex, tg⟩ := t
  simp only [T.kind, T.opq, T.names, T.items, T.size, T.exts, T.target] at HD HN
  go_enter Tryd.func19, Tryd.ntmps19
  go_wp2_with fail
  refine HD.out.mono ?_
  rintro e w1 ⟨An, cn, Ai, ci, Ae, ce, rfl, hp, hb⟩
  have hg := below_alloc (Below.refl _ w1) (.cells #[.int .i64 k, .bool o, .slice An ns.length cn, .slice Ai its.length ci, .int .i64 sz, .slice Ae ex.length ce, .string tg] 33)
  have P2 := Av.mk ((hp.grow hg).mono (B' := Lt (w1.alloc (.cells #[.int .i64 k, .bool o, .slice An ns.length cn, .slice Ai its.length ci, .int .i64 sz, .slice Ae ex.length ce, .string tg] 33))) (fun k hk => Nat.lt_of_lt_of_le hk (Below.size hg)))
  have HB2 : Av (Bel w (w1.alloc (.cells #[.int .i64 k, .bool o, .slice An ns.length cn, .slice Ai its.length ci, .int .i64 sz, .slice Ae ex.length ce, .string tg] 33))) := ⟨below_then hb (Below.size hb) hg⟩
  have X2 := Av.mk (Blk.new w1 33 #[.int .i64 k, .bool o, .slice An ns.length cn, .slice Ai its.length ci, .int .i64 sz, .slice Ae ex.length ce, .string tg])
  clear hp hb hg HD
  go_upto_region 2 with (fail)
  generalize w1.alloc (.cells #[.int .i64 k, .bool o, .slice An ns.length cn, .slice Ai its.length ci, .int .i64 sz, .slice Ae ex.length ce, .string tg] 33) = w2 at *
  generalize w1.heap.size = g at *
  have c0 := X2.out.cell 0; have c1 := X2.out.cell 1; have c2 := X2.out.cell 2; have c3 := X2.out.cell 3; have c4 := X2.out.cell 4; have c5 := X2.out.cell 5; have c6 := X2.out.cell 6
  have lx := X2.out.lt
  simp at c0 c1 c2 c3 c4 c5 c6
  go_wp2_with fail
  refine (HN.out w2 An cn Ai ci Ae ce P2.out).mono ?_
  rintro e w3 ⟨b, rfl, hbr, hb3⟩
  have HB3 : Av (Bel w w3) := ⟨below_then HB2.out (Below.size HB2.out) hb3⟩
  have HBR := Av.mk hbr
  clear hbr hb3
  go_wp2_with fail
  go_ret2
  exact ⟨b, rfl, HBR.out, HB3.out⟩
end Go.Proofs.YtkmojgdjapfbbaaDoor
