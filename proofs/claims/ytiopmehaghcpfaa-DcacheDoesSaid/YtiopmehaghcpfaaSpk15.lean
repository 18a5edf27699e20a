/- socagelaw15.speaks. Printed by mac.py from Spk15.src. -/
import Derived.Test.YtiopmehaghcpfaaEntP
namespace Go.Proofs.Ytiopmehaghcpfaa.E
open Go.Proofs.Ytiopmehaghcpfaa
open Go.RowKit Go.Maps
set_option linter.unusedSimpArgs false
set_option linter.unusedVariables false
attribute [local go_sem ↓] run_max_int run_min_int

theorem row_nil (w : World) (b : Nat) : w.ownsRow b 70 2 (.slice none 0 0) 0 [] := ⟨rfl, .inl ⟨rfl, rfl⟩⟩
theorem Dc.row70 {w0 w w' : World} {g gs n : Nat} {r hits misses : Int} {vs : Value} {G : Nat → Nat} {V : Nat → Value} {Ls : Nat → PL} {i b m : Nat} {v : Value} {xs : List Value} (h : Dc w0 w g gs n r hits misses vs G V Ls) (hi : i < n) (hk : KeepC g G V i w w') (hx : w.ownsRow b 70 2 v m xs) : w'.ownsRow b 70 2 v m xs :=
  row_keep hx hk (by
    rintro k hk' (e | e | e)
    · exact row_ne hx h.blk (by decide) (by rw [hk', e])
    · exact row_ne hx (h.fam.lru i hi).blk (by decide) (by rw [hk', e])
    · exact row_ne_row hx (h.fam.lru i hi).row (by decide) k hk' e)
theorem Dc.blkC {w0 w w' : World} {g gs n : Nat} {r hits misses : Int} {vs : Value} {G : Nat → Nat} {V : Nat → Value} {Ls : Nat → PL} {i b t : Nat} {cs : Array Value} (h : Dc w0 w g gs n r hits misses vs G V Ls) (hi : i < n) (hk : KeepC g G V i w w') (hx : Blk w b t cs) (h1 : t ≠ 137) (h2 : t ≠ 163) (h3 : t ≠ 168) : Blk w' b t cs :=
  hx.keep hk (by
    rintro (e | e | e)
    · exact hx.ne_ h.blk h1 e
    · exact hx.ne_ (h.fam.lru i hi).blk h2 e
    · exact row_ne (h.fam.lru i hi).row hx h3 e)
abbrev k15 : ByteArray := ⟨#[47, 97]⟩
theorem k15_chd : chd sl sa = k15 := by unfold chd; rw [if_pos rfl]; rfl
theorem useL_one (k : ByteArray) (x y : Pay) : useL k x [(k, y)] = [(k, x)] := by unfold useL; simp
theorem useL_nil (k : ByteArray) (x : Pay) : useL k x [] = [(k, x)] := rfl

set_option maxRecDepth 100000 in
set_option maxHeartbeats 4000000 in
theorem speaks15 (w : World) : Calls Try.prog 52 #[] w (RetB (.bool true) w) := by
  have HN := Av.mk (new_D 2 2 2 (by decide) (by decide) (by decide) w w (Below.refl _ w))
  go_enter Try.func52, Try.ntmps52
  go_wp2_with fail
  refine HN.out.mono ?_
  rintro e w1 ⟨g, vs, G, V, rfl, _, hd, hb⟩
  have HD := Av.mk (show Dc w w1 g w.heap.size 2 2 0 0 vs G V (fun _ => []) from hd)
  obtain ⟨i, hi⟩ : ∃ i, shd 2 k15 = i := ⟨_, rfl⟩
  have hil : i < 2 := by rw [← hi]; exact shd_lt (by decide) _
  have HI := Av.mk hi
  clear hd hb HN hi
  have HK := Av.mk (keep_yes w w1 g w.heap.size 2 2 0 0 vs G V (fun _ => []) HD.out (by decide) (by decide) sl sa k15 (by decide) (by decide) k15_chd (by decide) i HI.out ⟨0, false, 0, 0, 0, none, 0, 0, ⟨#[]⟩⟩ ⟨1, true, 0, 0, 0, none, 0, 0, ⟨#[]⟩⟩ [] false
    (getIs_not 2 [] k15 (by decide) (by simp)) (.inl rfl) (fun A c => [(k15, ⟨1, true, 0, 0, 0, A, 0, c, ⟨#[]⟩⟩)]) (fun A c => ⟨_, _, putIs_fits 2 [] k15 _ (by simp) (by decide) (by decide)⟩) 0 [] (row_nil w1 0) (by simp) (by decide))
  go_wp2_with fail
  refine HK.out.mono ?_
  rintro e w2 ⟨rfl, A, c, V2, hr2, hd2, _, k2⟩
  obtain ⟨x, hx⟩ : ∃ x : Pay, x = ⟨1, true, 0, 0, 0, A, 0, c, ⟨#[]⟩⟩ := ⟨_, rfl⟩
  have HD2 := Av.mk (show Dc w w2 g w.heap.size 2 2 0 0 vs G V2 (up (fun _ => []) i [(k15, x)]) from by rw [hx]; exact hd2)
  have HR2 := Av.mk (show w2.ownsRow w1.heap.size 70 2 (.slice x.A x.n x.c) x.n [] from by rw [hx]; exact hr2)
  have HX := Av.mk hx
  have hg : GetIs 2 (up (fun _ => ([] : PL)) i [(k15, x)] i) k15 [(k15, x)] x true := by
    rw [up_same]
    have := getIs_hit 2 [(k15, x)] k15 x (by simp) (by simp) (by simp)
    rwa [useL_one] at this
  have HG := Av.mk hg
  clear hr2 hd2 k2 HK HD hx hg
  have HL := Av.mk (look_miss w w2 g w.heap.size 2 2 0 0 vs G V2 _ HD2.out (by decide) (by decide) (by decide) (by decide) sl sa k15 (by decide) (by decide) k15_chd (by decide) i HI.out x [(k15, x)] true 2 HG.out (.inr (by rw [HX.out]; simp)))
  go_wp2_with fail
  refine HL.out.mono ?_
  rintro e w3 ⟨rfl, hd3, k3⟩
  have HR3 := Av.mk (HD2.out.row70 hil k3 HR2.out)
  rw [up_up] at hd3
  have HD3 := Av.mk (hd3.grow (below_alloc (Below.refl _ w3) (.cells #[.int .i64 0, .bool false, .int .i64 0, .int .i64 0, .int .i64 0, .slice none 0 0, .string (⟨#[]⟩ : ByteArray)] 76)))
  have HR3' := Av.mk (row_keep HR3.out ((Keep.refl (fun _ => False) w3).alloc (.cells #[.int .i64 0, .bool false, .int .i64 0, .int .i64 0, .int .i64 0, .slice none 0 0, .string (⟨#[]⟩ : ByteArray)] 76)) (by simp))
  clear hd3 k3 HL HD2 HR2 HR3
  have HEP := Av.mk (show x.ep = 1 from by rw [HX.out])
  have HTH := Av.mk (show x.there = true from by rw [HX.out])
  go_upto_region 5 with (fail)
  generalize w3.alloc (.cells #[.int .i64 0, .bool false, .int .i64 0, .int .i64 0, .int .i64 0, .slice none 0 0, .string (⟨#[]⟩ : ByteArray)] 76) = w4 at *
  generalize w3.heap.size = g3 at *
  have hl := look_hit w w4 g w.heap.size 2 2 0 (0 + 1) vs G V2 _ HD3.out (by decide) (by decide) (by decide) (by decide) sl sa k15 (by decide) (by decide) k15_chd (by decide) i HI.out x [(k15, x)] HG.out w1.heap.size [] HR3'.out (by simp) (by rw [HX.out]; simp)
  rw [HEP.out] at hl
  have HL := Av.mk hl
  clear hl
  go_wp2_with fail
  refine HL.out.mono ?_
  rintro e w5 ⟨A5, c5, rfl, _, hd5, _⟩
  rw [up_up] at hd5
  have HD5 := Av.mk (hd5.grow (below_alloc (Below.refl _ w5) (.cells #[.int .i64 x.ep, .bool x.there, .int .i64 x.kind, .int .i64 x.lev, .int .i64 x.ino, .slice A5 x.n c5, .string x.tg] 76)))
  have Y5 := Av.mk (Blk.new w5 76 #[.int .i64 x.ep, .bool x.there, .int .i64 x.kind, .int .i64 x.lev, .int .i64 x.ino, .slice A5 x.n c5, .string x.tg])
  clear hd5 HL HD3 HR3'
  go_upto_region 6 with (fail)
  generalize w5.alloc (.cells #[.int .i64 x.ep, .bool x.there, .int .i64 x.kind, .int .i64 x.lev, .int .i64 x.ino, .slice A5 x.n c5, .string x.tg] 76) = w6 at *
  generalize w5.heap.size = g5 at *
  have HC := Av.mk (counts_D HD5.out)
  go_wp2_with fail
  refine HC.out.mono ?_
  rintro e _ ⟨rfl, nd, rfl⟩
  have hm : most (fun j => (up (fun _ => ([] : PL)) i [(k15, x)] j).length) 2 = 1 := by
    have : i = 0 ∨ i = 1 := by omega
    rcases this with rfl | rfl <;> simp [most, up]
  have hmo := most_D (HD5.out.drewN nd) (by decide)
  rw [hm] at hmo
  have HM := Av.mk hmo
  have y1 := Y5.out.cell 1
  have ly := Y5.out.lt
  simp at y1
  rw [HTH.out] at y1
  have HBE := Av.mk (below_drewN HD5.out.below nd)
  clear hmo hm HC HD5 Y5
  go_wp2_with fail
  refine HM.out.mono ?_
  rintro e _ ⟨rfl, rfl⟩
  go_wp2
  go_ret
  exact ⟨rfl, HBE.out⟩
end Go.Proofs.Ytiopmehaghcpfaa.E
