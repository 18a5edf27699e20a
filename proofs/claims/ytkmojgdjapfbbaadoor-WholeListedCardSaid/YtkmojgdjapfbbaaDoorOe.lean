/- socageref04.entries. -/
import Derived.Test.YtkmojgdjapfbbaaDoorOn
namespace Go.Proofs.YtkmojgdjapfbbaaDoor
open Go.RowKit Go.Maps
set_option linter.unusedSimpArgs false
set_option linter.unusedVariables false

theorem nmB_cons {q : Option ByteArray} {s : ByteArray} {l : List ByteArray} : nmB q (s :: l) = (nameOk s && (match q with | none => true | some q => ltS q s) && nmB (some s) l) := rfl
set_option maxRecDepth 100000 in
set_option maxHeartbeats 4000000 in
theorem entries_calls {B : Nat → Prop} {w : World} {p : NV} {t : T} (h : Rep B w p t) (hl : t.names.length ≤ 140737488355328) (hl2 : t.items.length ≤ 140737488355328) (hs : ∀ s ∈ t.names, s.size ≤ 140737488355328) : Calls Tryd.prog 92 #[nodeV p t] w (RetB (.bool t.namesOk) w) := by
  have hns := h.names
  obtain ⟨An, cn, Ai, ci, Ae, ce, rfl⟩ := h.parts
  obtain ⟨k, o, ns, its, sz, ex, tg⟩ := t
  show Calls Tryd.prog 92 #[.agg #[.int .i64 k, .bool o, .slice An ns.length cn, .slice Ai its.length ci, .int .i64 sz, .slice Ae ex.length ce, .string tg]] w _
  simp only [T.names, T.items] at hns hs hl hl2
  have HSS := Av.mk hs
  have HT : Av (T.namesOk (.node k o ns its sz ex tg) = (nmB none ns && decide (ns.length = its.length))) := ⟨rfl⟩
  generalize T.namesOk (.node k o ns its sz ex tg) = R at *
  clear h hs
  by_cases hne : ns.length = its.length
  case neg =>
    have HF : Av (R = false) := ⟨by rw [HT.out]; simp [hne]⟩
    have t1 : ((ns.length : Int) != (its.length : Int)) = true := by simp; omega
    clear hne
    go_enter Tryd.func92, Tryd.ntmps92
    go_wp2_with fail
    go_ret
    exact ⟨retb HF.out, below_alloc (Below.refl _ w) _⟩
  have HTT : Av (nmB none ns = R) := ⟨by rw [HT.out]; simp [hne]⟩
  have t1 : ((ns.length : Int) != (its.length : Int)) = false := by simp; omega
  clear hne HT
  go_enter Tryd.func92, Tryd.ntmps92
  go_wp2_with fail
  have X := Av.mk (Blk.new w 33 #[.int .i64 k, .bool o, .slice An ns.length cn, .slice Ai its.length ci, .int .i64 sz, .slice Ae ex.length ce, .string tg])
  have hb0 := below_alloc (Below.refl _ w) (.cells #[.int .i64 k, .bool o, .slice An ns.length cn, .slice Ai its.length ci, .int .i64 sz, .slice Ae ex.length ce, .string tg] 33)
  have HS := Av.mk (hns.grow hb0)
  have HB : Av (Bel w (w.alloc (.cells #[.int .i64 k, .bool o, .slice An ns.length cn, .slice Ai its.length ci, .int .i64 sz, .slice Ae ex.length ce, .string tg] 33))) := ⟨hb0⟩
  clear hns hb0
  generalize w.alloc (.cells #[.int .i64 k, .bool o, .slice An ns.length cn, .slice Ai its.length ci, .int .i64 sz, .slice Ae ex.length ce, .string tg] 33) = w1 at *
  generalize w.heap.size = g at *
  go_loopw [3] (fun s3 wr => ∃ j : Nat, j ≤ ns.length ∧ s3 = .int .i64 j ∧ (∃ m, wr = w1.drewN m) ∧ Av (nmB (prv ns j) (ns.drop j) = R)) (fun s3 _ => ns.length - (intOf s3).toNat)
  case atStart => exact ⟨0, Nat.zero_le _, rfl, ⟨0, drewN_zero _⟩, HTT⟩
  case round =>
    obtain ⟨j, hj, rfl, ⟨m, hm⟩, HX⟩ := hrel
    have HM := Av.mk hm
    have X2 : Av (Blk wr g 33 #[.int .i64 k, .bool o, .slice An ns.length cn, .slice Ai its.length ci, .int .i64 sz, .slice Ae ex.length ce, .string tg]) := ⟨by rw [hm]; exact X.out.drewN m⟩
    have HS2 : Av (Sl B wr 1 (.slice An ns.length cn) ns.length (ns.map Value.string)) := ⟨by rw [hm]; exact HS.out.grow (below_drewN (Below.refl _ w1) m)⟩
    have HB2 : Av (Bel w wr) := ⟨by rw [hm]; exact HB.out.drewN m⟩
    clear hm
    have c2 := X2.out.cell 2
    have lx := X2.out.lt
    simp at c2
    by_cases hlt : j < ns.length
    case neg =>
      obtain rfl : j = ns.length := by omega
      have hw := HX.out
      rw [List.drop_length] at hw
      have HF : Av (R = true) := ⟨hw.symm⟩
      clear hw
      go_wp2_with fail
      go_ret
      exact ⟨retb HF.out, HB2.out⟩
    obtain ⟨s, hsx⟩ : ∃ s, ns[j]? = some s := ⟨_, List.getElem?_eq_getElem hlt⟩
    obtain ⟨b, off, rfl, _, hbl, hc, c0, hall⟩ := HS2.out.str hsx
    have hw := HX.out
    rw [drop_at hsx, nmB_cons] at hw
    have HSM := Av.mk (List.mem_of_getElem? hsx)
    have HN2 : Av (prv ns (j + 1) = some s) := ⟨hsx⟩
    have HNR := Av.mk (fun w => nright_calls s w (HSS.out s HSM.out))
    cases hno : nameOk s
    case false =>
      rw [hno] at hw HNR
      have HF : Av (R = false) := ⟨by rw [← hw]; rfl⟩
      clear hw hsx hall hno
      go_upto_region 6 with (fail)
      go_quiet ((go_at_call 105; refine Calls.quiet_of (HNR.out _)))
      go_wp2_with fail
      go_ret
      exact ⟨retb HF.out, HB2.out.drewN _⟩
    case true =>
      rw [hno] at hw HNR
      by_cases hj0 : j = 0
      · subst hj0
        simp only [Nat.add_zero] at c0
        have HX3 : Av (nmB (prv ns 1) (ns.drop 1) = R) := ⟨by rw [HN2.out, ← hw]; simp [prv]⟩
        clear hw hsx hall hno
        go_upto_region 6 with (fail)
        go_quiet ((go_at_call 105; refine Calls.quiet_of (HNR.out _)))
        go_wp2_with fail
        go_roundw
        case rel => exact ⟨1, by omega, by go_num, by rw [HM.out]; exact ⟨_, by first | rfl | exact World.drewN_drewN _ _ _⟩, HX3⟩
        case measure => simp [intOf]; omega
      · obtain ⟨i, rfl⟩ : ∃ i, j = i + 1 := ⟨j - 1, by omega⟩
        obtain ⟨q, hq⟩ : ∃ q, ns[i]? = some q := ⟨_, List.getElem?_eq_getElem (by omega)⟩
        have d0 := hall i q hq
        have HP : Av (prv ns (i + 1) = some q) := ⟨hq⟩
        rw [HP.out] at hw
        simp only [Bool.true_and] at hw
        have t6 : decide ((0 : Int) < ((i + 1 : Nat) : Int)) = true := by rw [decide_eq_true_eq]; omega
        have HNL := Av.mk (fun w => nless_calls q s w (HSS.out q (List.mem_of_getElem? hq)) (HSS.out s HSM.out))
        clear hq hsx hall hno
        cases hlo : ltS q s
        case false =>
          rw [hlo] at hw HNL
          have HF : Av (R = false) := ⟨by rw [← hw]; rfl⟩
          clear hw hlo
          go_upto_region 6 with (fail)
          go_quiet (first | (go_at_call 105; refine Calls.quiet_of (HNR.out _)) | (go_at_call 71; refine Calls.quiet_of (HNL.out _)))
          go_wp2_with fail
          go_ret
          exact ⟨retb HF.out, HB2.out.drewN _⟩
        case true =>
          rw [hlo] at hw HNL
          have HX3 : Av (nmB (prv ns (i + 1 + 1)) (ns.drop (i + 1 + 1)) = R) := ⟨by rw [HN2.out, ← hw]; simp⟩
          clear hw hlo
          go_upto_region 6 with (fail)
          go_quiet (first | (go_at_call 105; refine Calls.quiet_of (HNR.out _)) | (go_at_call 71; refine Calls.quiet_of (HNL.out _)))
          go_wp2_with fail
          go_roundw
          case rel => exact ⟨i + 1 + 1, by omega, by go_num, by rw [HM.out]; exact ⟨_, by first | rfl | exact World.drewN_drewN _ _ _⟩, HX3⟩
          case measure => simp [intOf]; omega
end Go.Proofs.YtkmojgdjapfbbaaDoor
