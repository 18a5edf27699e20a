/- LcacheOnce: the walk. Printed by mac.py from OnceW.src. -/
import Derived.Test.YtiopmehaghcpfaaOnceQ
import Derived.Test.YtiopmehaghcpfaaU8s
import Derived.BigQuiet
namespace Go.Proofs.Ytiopmehaghcpfaa.L
open Go.Proofs.Ytiopmehaghcpfaa
open Go.RowKit Go.Maps
set_option linter.unusedSimpArgs false
set_option linter.unusedVariables false
attribute [local go_sem ↓] run_max_int run_min_int

set_option maxRecDepth 100000 in
set_option maxHeartbeats 4000000 in
theorem once_walk (A : Option Addr) (N c : Nat) (ep : Int) (F : Nat → Int) (w : World) (hA : U8s w A N F) : Calls Try.prog 9 #[.slice A N c, .int .i64 ep] w (RetB (.bool true) w) := by
  have HA := Av.mk hA
  clear hA
  have hmm := @run_makeMap Try.prog
  have hmf : ∀ (fn : Fn) (first cap : Array Value) (w : World), (Instr.makeFunc fn first cap).run Try.prog w = .ok (.func fn first cap) w := fun _ _ _ _ => rfl
  go_enter Try.func9, Try.ntmps9
  go_wp2_with fail
  refine (speaks16 w).mono ?_
  rintro e w1 ⟨rfl, hb1⟩
  have HB1 := Av.mk hb1
  clear hb1
  by_cases hbig : 200 < N
  · go_wp2
    go_ret
    exact ⟨rfl, HB1.out⟩
  have HN := Av.mk (new_L 1 4 1 (by decide) (by decide) (by decide) w w1 HB1.out)
  go_wp2_with fail
  refine HN.out.mono ?_
  rintro e w2 ⟨g, vs, G, V, rfl, _, hd, _⟩
  have HD := Av.mk (show Lc w w2 g w1.heap.size 1 4 0 vs G V (fun _ => []) from hd)
  generalize w1.heap.size = gs at *
  clear hd HN
  have HO : Av (Ost w ((w2.alloc (.map #[] 0)).alloc (.cells #[.map (some w2.heap.size)] 94)) g gs 0 vs G V (fun _ => []) (w2.alloc (.map #[] 0)).heap.size w2.heap.size (.map []) ep) := by
    have hb2 := below_alloc (Below.refl _ w2) (.map #[] 0)
    have hb3 := below_alloc (Below.refl _ (w2.alloc (.map #[] 0))) (.cells #[.map (some w2.heap.size)] 94)
    exact ⟨⟨(HD.out.grow hb2).grow hb3, ⟨Blk.new _ 94 #[.map (some w2.heap.size)], ownsMap_keep (World.ownsMap_made w2 _ _ _) (Keep.of_below (S := fun _ => False) hb3) (by simp)⟩, OFit.nil ep, by simp, rfl, HD.out.below.size⟩⟩
  have e1 : (w2.alloc (.map #[] 0)).heap.size = w2.heap.size + 1 := by simp
  rw [e1] at HO
  go_upto_region 6 with (fail)
  clear HD e1
  generalize (w2.alloc (.map #[] 0)).alloc (.cells #[.map (some w2.heap.size)] 94) = w3 at *
  generalize w2.heap.size + 1 = gm at *
  generalize w2.heap.size = bm at *
  clear hmm
  go_wp2_with fail
  go_loopw [20] (fun i wr => ∃ (q : Nat) (made : Int) (V : Nat → Value) (Ls : Nat → PL) (D : DataW Int), q ≤ N ∧ i = .int .i64 q ∧ Ost w wr g gs made vs G V Ls gm bm D ep) (fun i _ => N - (intOf i).toNat)
  case atStart => exact ⟨0, 0, V, _, _, Nat.zero_le _, rfl, HO.out⟩
  case round =>
    obtain ⟨q, made, V1, Ls, D, hq, rfl, hs⟩ := hrel
    have HS := Av.mk hs
    clear hs HO
    by_cases hlt : q < N
    · obtain ⟨b2, off, rfl, hbl, hF⟩ := HA.out (by omega)
      obtain ⟨f0, f1, e0⟩ := hF q hlt
      generalize F q = d at *
      clear hF
      rw [← HS.out.lc.below.cell (p := ⟨b2, _, none⟩) hbl] at e0
      obtain ⟨m, hm⟩ : ∃ m : Nat, d % 4 = (m : Int) := ⟨(d % 4).toNat, by omega⟩
      go_wp2_with fail
      have X1 := Av.mk (Blk.new wr 5 #[.int .u8 d])
      have HS1 := Av.mk (HS.out.below (below_alloc (Below.refl _ wr) (.cells #[.int .u8 d] 5)))
      clear HS e0
      generalize wr.alloc (.cells #[.int .u8 d] 5) = w4 at *
      generalize wr.heap.size = gb at *
      refine (E.dir_calls d f0 f1 w4).mono ?_
      rintro e _ ⟨rfl, rfl⟩
      obtain ⟨dir, hdir⟩ : ∃ dir, dir = E.dirOf d := ⟨_, rfl⟩
      rw [← hdir]
      have HDIR := Av.mk hdir
      have hds : dir.size ≤ 4 := by rw [hdir]; exact E.dirOf_size d
      clear hdir
      go_upto_region 10 with (fail)
      have X2 := Av.mk (X1.out.alloc (.cells #[.string dir] 9))
      have Y2 := Av.mk (Blk.new w4 9 #[.string dir])
      have HS2 := Av.mk (HS1.out.below (below_alloc (Below.refl _ w4) (.cells #[.string dir] 9)))
      clear HS1 X1
      generalize w4.alloc (.cells #[.string dir] 9) = w5 at *
      generalize w4.heap.size = gd at *
      have y0 := Y2.out.cell 0
      have ly := Y2.out.lt
      simp at y0
      have HT := Av.mk (ost_take HS2.out gd gb d f0 f1 m hm dir HDIR.out Y2.out X2.out)
      go_wp2_with fail
      refine HT.out.mono ?_
      rintro e w6 ⟨A6, c6, made6, V6, L6, D6, rfl, hs6, hat6, hy6, hx6⟩
      have HS6 := Av.mk hs6
      have HAT := Av.mk hat6
      have m0 := hs6.ms.blk.cell 0
      have lm := hs6.ms.blk.lt
      have y0 := hy6.cell 0
      have ly := hy6.lt
      have x0 := hx6.cell 0
      have lx := hx6.lt
      have hkey := Av.mk (key9 (s := dir) (by omega))
      have hz : (zeroValue 3).run Try.prog w6 = .ok (.int .i64 0) w6 := by kernel_rfl
      have HZ := Av.mk hz
      have ht4 : Int.tmod d 4 = (m : Int) := by rw [Int.tmod_eq_emod_of_nonneg f0, hm]
      have hm4 : m < 4 := by omega
      simp at m0 y0 x0
      clear hs6 hat6 hy6 hx6 HT HS2 X2 Y2 hz
      go_wp2_with (first | (at_lookup; refine wpList_look1 decI (fun c => .int .i64 c) decI_inv rfl _ _ 94 rfl 9 3 law9 Try.underlying94 0 HZ.out rfl bm _ D6 rfl HS6.out.ms.map _ _ rfl hkey.out ?_; rw [HAT.out]))
      go_roundw
      case rel => exact ⟨q + 1, made6, V6, L6, D6, by omega, by go_num, HS6.out⟩
      case measure => simp [intOf]; omega
    · obtain rfl : q = N := by omega
      have m0 := HS.out.ms.blk.cell 0
      have lm := HS.out.ms.blk.lt
      simp at m0
      have hme : made = ((Maps.size D : Nat) : Int) := by rw [HS.out.made_eq, HS.out.fit.size]
      subst hme
      have hlen := fun ty => World.ownsMap.len (w := wr.drew) (show wr.drew.ownsMap Try.prog 9 (rdr decI) bm (Maps.size D) D from HS.out.ms.map) Try.underlying94 ty
      have HBE := Av.mk HS.out.lc.below
      go_wp2_with fail
      go_region_with (first | (go_at_call 51; refine (made_L HS.out.lc.drew).mono ?_; rintro e _ ⟨rfl, rfl⟩))
      all_goals
        go_wp2
        go_ret
        exact ⟨rfl, below_drewN HBE.out 1⟩
end Go.Proofs.Ytiopmehaghcpfaa.L
