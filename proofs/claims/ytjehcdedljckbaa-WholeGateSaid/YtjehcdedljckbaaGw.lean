/- WholeGate: the walk. -/
import Derived.Test.YtjehcdedljckbaaGp
import Derived.Deep.DeepCutAuto
import Derived.Deep.CutBlock
import Derived.Deep.RegionWith
import Derived.Outline
namespace Go.Proofs.Ytjehcdedljckbaa
open Go.RowKit Go.Maps
set_option linter.unusedSimpArgs false
set_option linter.unusedVariables false
attribute [local go_sem ↓] run_max_int run_min_int

/-- A slice of numbers of sixteen bits that came in. -/
def U16s (w : World) (A : Option Addr) (n : Nat) (F : Nat → Int) : Prop :=
  0 < n → ∃ b off, A = some ⟨b, off, none⟩ ∧ b < w.heap.size ∧ ∀ i, i < n → 0 ≤ F i ∧ F i ≤ 65535 ∧ w.cell? ⟨b, off + i, none⟩ = some (.int .u16 (F i))

/-- Is somebody among the first ones? -/
def wtn (Q : List Int) (id : Int) (j : Nat) : Bool := decide (id ∈ Q.take j)
theorem wtn_zero (Q : List Int) (id : Int) : wtn Q id 0 = false := by simp [wtn]
theorem wtn_all (Q : List Int) (id : Int) : wtn Q id Q.length = decide (id ∈ Q) := by simp [wtn]
theorem wtn_succ {Q : List Int} {id y : Int} {j : Nat} (h : Q[j]? = some y) : wtn Q id (j + 1) = (wtn Q id j || (y == id)) := by
  unfold wtn
  rw [List.take_add_one, h]
  by_cases a : id ∈ Q.take j
  · simp [a]
  · by_cases b : y = id
    · subst b; simp
    · have b' : id ≠ y := fun e => b e.symm
      simp [a, b, b']
theorem id_bounds {x : Int} (h0 : 0 ≤ x) (h1 : x ≤ 65535) : 0 ≤ wrap64 ((IntKind.u16.wrap (x.tdiv 4)).tmod 8) ∧ wrap64 ((IntKind.u16.wrap (x.tdiv 4)).tmod 8) ≤ 7 := by
  have e1 : IntKind.u16.wrap (x.tdiv 4) = x / 4 := by
    rw [Int.tdiv_eq_ediv_of_nonneg h0]
    rw [IntKind.wrap_u16]
    omega
  rw [e1, Int.tmod_eq_emod_of_nonneg (by omega)]
  unfold wrap64
  omega

set_option maxRecDepth 100000 in
set_option maxHeartbeats 4000000 in
theorem gate_walk (A : Option Addr) (n c : Nat) (F : Nat → Int) (w : World) (hA : U16s w A n F) (hn : n ≤ 9223372036854775807) :
    Calls Try.prog 5 #[.slice A n c] w (RetB (.bool true) w) := by
  have HA := Av.mk hA
  clear hA
  have hmm := @run_makeMap Try.prog
  obtain ⟨I3, hi3⟩ := info3
  have I := Av.mk hi3
  clear hi3
  go_enter Try.func5, Try.ntmps5
  go_wp2_with fail
  refine (New_calls 0 w).mono ?_
  rintro e w1 ⟨gt0, bm0, rfl, hg0, hbm0, ht0, hb1⟩
  have HT0 := Av.mk (show Tab w1 gt0 1 0 bm0 0 (.map []) from ht0)
  have HB1 := Av.mk hb1
  clear ht0 hb1
  have hz1 := HB1.out.size
  have ha := (Keep.refl (fun _ => False) w1).alloc (.cells #[.pointer (some ⟨gt0, 0, none⟩)] 23)
  have HT1 := Av.mk (HT0.out.keep ha (by simp) (by simp))
  have X1 := Av.mk (Blk.new w1 23 #[.pointer (some ⟨gt0, 0, none⟩)])
  have HB2 := Av.mk (below_alloc HB1.out (.cells #[.pointer (some ⟨gt0, 0, none⟩)] 23))
  clear ha HT0 HB1
  go_upto_region 2 with (fail)
  generalize w1.alloc (.cells #[.pointer (some ⟨gt0, 0, none⟩)] 23) = w2 at *
  have hp3 : w.heap.size ≤ w1.heap.size := hz1
  generalize w1.heap.size = p3 at *
  have c3 := X1.out.cell 0
  have l3 := X1.out.lt
  simp at c3
  have HR := Av.mk (Room_calls gt0 1 0 bm0 0 _ w2 HT1.out)
  go_wp2_with fail
  refine HR.out.mono ?_
  rintro e _ ⟨rfl, rfl⟩
  clear HR
  by_cases hbig : 200 < n
  · go_wp2
    go_ret
    exact ⟨rfl, HB2.out⟩
  go_wp2_with fail
  have hn2 : n ≤ 200 := by omega
  clear hbig hn
  have hba := below_alloc (Below.refl _ w2) (.cells #[.map none, .int .i64 0, .slice none 0 0] 47)
  have HG3 := Av.mk (Blk.new w2 47 #[.map none, .int .i64 0, .slice none 0 0])
  have X3 := Av.mk (X1.out.keep (Keep.of_below (S := fun _ => False) hba) (by simp))
  have HB3 := Av.mk (below_then HB2.out HB2.out.size hba)
  have hg : w.heap.size ≤ w2.heap.size := HB2.out.size
  clear hba X1 HT1 HB2 c3 l3
  generalize w2.alloc (.cells #[.map none, .int .i64 0, .slice none 0 0] 47) = w3 at *
  generalize w2.heap.size = g at *
  refine (New_calls 1024 w3).mono ?_
  rintro e w4 ⟨gt, bm, rfl, hgt, hbm, ht, hb4⟩
  have HT4 := Av.mk (show TabR w4 gt 1024 bm 0 0 from TabR.of (b := 0) ht rfl Rng.nil)
  have X4 := Av.mk (X3.out.keep (Keep.of_below (S := fun _ => False) hb4) (by simp))
  have HG4 := Av.mk (HG3.out.keep (Keep.of_below (S := fun _ => False) hb4) (by simp))
  have HB4 := Av.mk (below_then HB3.out HB3.out.size hb4)
  have hz3 := HB3.out.size
  have hgt' : w.heap.size ≤ gt := by omega
  have hbm' : w.heap.size ≤ bm := by omega
  clear hb4 ht HB3 X3 HG3 hgt hbm
  have l3 := X4.out.lt
  have f3 := X4.out.frozen 0
  have c3 := X4.out.cell 0
  simp at c3
  go_upto_region 8 with (fail)
  have hst := (Keep.refl (fun k => k = p3) w4).setCell (p := ⟨p3, 0, none⟩) (fun _ => rfl) (.pointer (some ⟨gt, 0, none⟩))
  have X5 : Av (Blk (w4.setCell ⟨p3, 0, none⟩ (.pointer (some ⟨gt, 0, none⟩))) p3 23 #[.pointer (some ⟨gt, 0, none⟩)]) := ⟨X4.out.set_ 0 _⟩
  have HG5 := Av.mk (HG4.out.keep hst (HG4.out.ne_ X4.out (by decide)))
  have HT5 := Av.mk (HT4.out.keep' hst (HT4.out.blk.ne_ X4.out (by decide)) (HT4.out.mapne X4.out))
  have HB5 := Av.mk (below_keep HB4.out HB4.out.size hst (fun k e => by rw [e]; exact hp3))
  clear hst X4 HG4 HT4 HB4 l3 f3 c3
  generalize w4.setCell ⟨p3, 0, none⟩ (.pointer (some ⟨gt, 0, none⟩)) = w5 at *
  go_upto_region 11 with (fail)
  have hb8 : Below w5.heap.size w5 (((w5.alloc (.cells #[] 3)).alloc (.map #[] 0)).alloc (.cells #[.map (some (w5.heap.size + 1))] 44)) := below_alloc (below_alloc (below_alloc (Below.refl _ w5) _) _) _
  have hz5 := HB5.out.size
  have HS8 : Av (St w (((w5.alloc (.cells #[] 3)).alloc (.map #[] 0)).alloc (.cells #[.map (some (w5.heap.size + 1))] 44)) p3 (w5.heap.size + 1 + 1) g gt bm (w5.heap.size + 1) (.map none) (.map []) 0 (.slice none 0 0) [] (.slice (some ⟨w5.heap.size, 0, none⟩) 0 0) [] 0) := by
    have hk : Keep (fun _ => False) w5 _ := Keep.of_below hb8
    have hbm5 : bm < w5.heap.size := by obtain ⟨D, ht, _⟩ := HT5.out; exact ht.map.lt
    have hl := ((Blk.new w5 3 #[]).alloc (.map #[] 0)).alloc (.cells #[.map (some (w5.heap.size + 1))] 44)
    have hm := (World.ownsMap_made (w5.alloc (.cells #[] 3)) Try.prog 3 (rdr decU)).alloc (.cells #[.map (some (w5.heap.size + 1))] 44)
    have hs := Blk.new ((w5.alloc (.cells #[] 3)).alloc (.map #[] 0)) 44 #[.map (some (w5.heap.size + 1))]
    rw [show (w5.alloc (.cells #[] 3)).heap.size = w5.heap.size + 1 from by simp] at hm
    rw [show ((w5.alloc (.cells #[] 3)).alloc (.map #[] 0)).heap.size = w5.heap.size + 1 + 1 from by simp] at hs
    exact ⟨⟨⟨X5.out.keep hk (by simp), hs, HT5.out.keep' hk (by simp) (by simp), ⟨.map [], ownsMap_tight hm, RngU.nil⟩, by omega, hp3, by omega, hgt', hbm', by omega⟩, ⟨HG5.out.keep hk (by simp), .inl ⟨rfl, rfl⟩, .inl ⟨rfl, rfl⟩, hg⟩,
      .inr ⟨w5.heap.size, 0, 0, #[], rfl, hz5, hl, by simp [ints], by decide, by simp, by simp [ints]⟩, by simp [Value.ownBlock], by simp [rvB], by simp [rvB], below_then HB5.out HB5.out.size hb8⟩⟩
  clear hb8 hz5 X5 HG5 HT5 HB5 hmm
  generalize ((w5.alloc (.cells #[] 3)).alloc (.map #[] 0)).alloc (.cells #[.map (some (w5.heap.size + 1))] 44) = w8 at *
  generalize w5.heap.size + 1 + 1 = p6 at *
  generalize w5.heap.size + 1 = bs at *
  generalize w5.heap.size = l0 at *
  go_wp2_with fail
  go_loopw [5, 34] (fun s5 i wr => ∃ (k : Nat) (rv : Value) (D : DataW Unit) (R : List Int) (W : Int) (qv : Value) (Q : List Int) (la : Option Addr) (lc : Nat) (made : Nat), k ≤ n ∧ i = .int .i64 k ∧ s5 = .slice la Q.length lc ∧ St w wr p3 p6 g gt bm bs rv D W qv Q (.slice la Q.length lc) Q made ∧ Av (GInv D R W Q k ∧ made ≤ k)) (fun _ i _ => n - (intOf i).toNat)
  case atStart => exact ⟨0, _, _, _, _, _, _, _, _, 0, Nat.zero_le _, rfl, rfl, HS8.out, ⟨GInv.nil, Nat.le_refl _⟩⟩
  case round =>
    obtain ⟨k, rv, D, R, W, qv, Q, la, lc, made, hk, rfl, rfl, hs, HI⟩ := hrel
    have HS := Av.mk hs
    clear hs HS8
    by_cases hlt : k < n
    · obtain ⟨b, off, rfl, hbl, hF⟩ := HA.out (by omega)
      obtain ⟨x0, x1, e0⟩ := hF k hlt
      generalize F k = x at *
      clear hF
      rw [← HS.out.bel.cell (p := ⟨b, _, none⟩) hbl] at e0
      go_upto_region 16 with (fail)
      obtain ⟨i0, i1⟩ := id_bounds x0 x1
      generalize wrap64 ((IntKind.u16.wrap (x.tdiv 4)).tmod 8) = id at *
      generalize (IntKind.u16.wrap (x.tdiv 4)).tmod 8 = r2 at *
      generalize IntKind.u16.wrap (x.tdiv 4) = r1 at *
      have HQL := Av.mk HI.out.1.ql
      go_wp2_with fail
      go_loop [11, 44] (fun s11 i => ∃ (j : Nat) (b : Bool), j ≤ Q.length ∧ i = .int .i64 j ∧ s11 = .bool b ∧ Av (b = wtn Q id j)) (fun _ i => Q.length - (intOf i).toNat)
      case atStart => exact ⟨0, false, Nat.zero_le _, rfl, rfl, ⟨(wtn_zero _ _).symm⟩⟩
      case round =>
        obtain ⟨j, wt, hj, rfl, rfl, HW⟩ := hrel
        by_cases hlj : j < Q.length
        · have hlQ := HQL.out
          obtain ⟨gq, of2, cap, hv, _, hql, hcap, hcells⟩ := HS.out.law.at (by simp [ints]; omega)
          simp [ints] at hv
          obtain ⟨rfl, rfl⟩ := hv
          have hcell := hcells j (by simp [ints]; omega)
          obtain ⟨y, hy⟩ : ∃ y, Q[j]? = some y := ⟨_, List.getElem?_eq_getElem hlj⟩
          simp [ints, hy] at hcell
          have HN := Av.mk (wtn_succ (id := id) hy)
          clear hcells hy
          cases wt
          all_goals
            go_wp2_with fail
            go_round
            case rel => exact ⟨j + 1, _, by omega, by go_num, rfl, ⟨by rw [HN.out, ← HW.out]; simp⟩⟩
            case measure => simp [intOf]; omega
        · obtain rfl : j = Q.length := by omega
          replace HW : Av (wt = decide (id ∈ Q)) := ⟨by rw [HW.out, wtn_all]⟩
          have hlQ := HQL.out
          go_upto_region 21 with (fail)
          have hx4 : x % 4 = 0 ∨ x % 4 = 1 ∨ x % 4 = 2 ∨ x % 4 = 3 := by omega
          rcases hx4 with h4 | h4 | h4 | h4
          · have t0 : (x % 4 == 0) = true := by rw [h4]; rfl
            have t1 : (x % 4 == 1) = false := by rw [h4]; rfl
            have t2 : (x % 4 == 2) = false := by rw [h4]; rfl
            clear h4
            cases wt
            case true =>
              go_wp2_with fail
              refine ⟨⟨k + 1, rv, D, R, W, qv, Q, la, lc, made, by omega, by go_num, rfl, HS.out, ⟨HI.out.1.mono (by omega), by have := HI.out.2; omega⟩⟩, ?_⟩
              simp [intOf]
              omega
            case false =>
              by_cases hno : W ≠ 0 ∨ Q ≠ [] ∨ isIn D W id = true
              · have HC := Av.mk (Read_no HS.out.gate id i0 (by omega) hno)
                clear hno
                go_wp2_with fail
                refine HC.out.mono ?_
                rintro e w2 ⟨rfl, hb⟩
                have HS2 := Av.mk (HS.out.below hb)
                clear hb
                go_wp2_with fail
                refine ⟨⟨k + 1, rv, D, R, W, qv, Q, la, lc, made, by omega, by go_num, rfl, HS2.out, ⟨HI.out.1.mono (by omega), by have := HI.out.2; omega⟩⟩, ?_⟩
                simp [intOf]
                omega
              · obtain ⟨rfl, rfl, hin⟩ : W = 0 ∧ Q = [] ∧ isIn D W id = false := ⟨Classical.byContradiction fun h => hno (.inl h), Classical.byContradiction fun h => hno (.inr (.inl h)), by cases h : isIn D W id; rfl; exact absurd (.inr (.inr h)) hno⟩
                have HC := Av.mk (Read_yes HS.out.gate id i0 (by omega) hin (by rw [HI.out.1.size]; have := HI.out.1.rl; omega))
                have HIN := Av.mk hin
                clear hno hin
                go_wp2_with fail
                refine HC.out.mono ?_
                rintro e w2 ⟨rv', qv', rfl, hg2, hk2, hr2, hq2⟩
                have HS2 := Av.mk (HS.out.byGate hg2 hk2 hr2 hq2)
                clear hg2 hk2 hr2 hq2
                have hmd := HI.out.2
                have HCI := Av.mk (in_calls HS2.out.ins id (by omega))
                go_wp2_with fail
                refine HCI.out.mono ?_
                rintro e w3 ⟨rfl, hi3, hk3⟩
                have HS3 := Av.mk (HS2.out.byIn hi3 hk3)
                clear hi3 hk3
                go_wp2_with fail
                have hnr : id ∉ R := by have h := HIN.out; rw [HI.out.1.isIn] at h; simpa using fun h' => by simp [h'] at h
                refine ⟨⟨k + 1, rv', _, _, _, qv', [], la, lc, made + 1, by omega, by go_num, rfl, HS3.out, ⟨HI.out.1.read HS.out.gate.rm.tidy i0 i1 hnr, by have := HI.out.2; omega⟩⟩, ?_⟩
                simp [intOf]
                omega
          · have t0 : (x % 4 == 0) = false := by rw [h4]; rfl
            have t1 : (x % 4 == 1) = true := by rw [h4]; rfl
            have t2 : (x % 4 == 2) = false := by rw [h4]; rfl
            clear h4
            obtain ⟨bi, hbi⟩ : ∃ b, isIn D W id = b := ⟨_, rfl⟩
            have HIC := Av.mk (In_calls HS.out.gate id i0 (by omega))
            rw [hbi] at HIC
            cases bi
            case true =>
              clear hbi
              go_wp2_with fail
              refine HIC.out.mono ?_
              rintro e w2 ⟨rfl, hb⟩
              have HS2 := Av.mk (HS.out.below hb)
              clear hb
              go_wp2_with fail
              refine ⟨⟨k + 1, rv, D, R, W, qv, Q, la, lc, made, by omega, by go_num, rfl, HS2.out, ⟨HI.out.1.mono (by omega), by have := HI.out.2; omega⟩⟩, ?_⟩
              simp [intOf]
              omega
            case false =>
              have HIN := Av.mk hbi
              have HNI : Av (id ∉ R ∧ W ≠ id + 1) := ⟨by rw [HI.out.1.isIn] at hbi; simpa using hbi⟩
              clear hbi
              go_wp2_with fail
              refine HIC.out.mono ?_
              rintro e w2 ⟨rfl, hb⟩
              have HS2 := Av.mk (HS.out.below hb)
              clear hb
              by_cases hm : id ∈ Q
              · obtain rfl : wt = true := by rw [HW.out]; simpa using hm
                obtain ⟨A1, B1, hQ⟩ := List.append_of_mem hm
                have hA1 : id ∉ A1 := by
                  have h := HI.out.1.qn
                  rw [hQ, List.nodup_append] at h
                  exact fun h' => h.2.2 id h' id (by simp) rfl
                have HQE := Av.mk hQ
                clear hQ hm
                by_cases hno : A1 ≠ [] ∨ W ≠ 0 ∨ 0 < Maps.size D
                · have HC := Av.mk (Write_wait (by rw [← HQE.out]; exact HS2.out.gate) i0 (by omega) HIN.out hA1 (by rw [← HQE.out]; omega) hno)
                  clear hno
                  go_wp2_with fail
                  refine HC.out.mono ?_
                  rintro e w3 ⟨rfl, hb⟩
                  have HS3 := Av.mk (HS2.out.below hb)
                  clear hb
                  go_wp2_with fail
                  refine ⟨⟨k + 1, rv, D, R, W, qv, Q, la, lc, made, by omega, by go_num, rfl, HS3.out, ⟨HI.out.1.mono (by omega), by have := HI.out.2; omega⟩⟩, ?_⟩
                  simp [intOf]
                  omega
                · obtain ⟨rfl, rfl, hsz⟩ : A1 = [] ∧ W = 0 ∧ Maps.size D = 0 := ⟨Classical.byContradiction fun h => hno (.inl h), Classical.byContradiction fun h => hno (.inr (.inl h)), by have : ¬ 0 < Maps.size D := fun h => hno (.inr (.inr h)); omega⟩
                  obtain rfl : Q = id :: B1 := HQE.out
                  have HRN : Av (R = []) := ⟨List.eq_nil_of_length_eq_zero (by have := HI.out.1.size; omega)⟩
                  have hB1 : B1.length ≤ 900 := by have := HQL.out; simp at this; omega
                  have HC := Av.mk (Write_go HS2.out.gate i0 (by omega) HIN.out hB1 hsz)
                  clear hno hsz HQE
                  go_wp2_with fail
                  refine HC.out.mono ?_
                  rintro e w3 ⟨rv', qv', rfl, hg3, hk3, hr3, hq3⟩
                  have HS3 := Av.mk (HS2.out.byGate hg3 hk3 hr3 hq3)
                  clear hg3 hk3 hr3 hq3
                  have hmd := HI.out.2
                  have HCI := Av.mk (in_calls HS3.out.ins id (by omega))
                  go_wp2_with fail
                  refine HCI.out.mono ?_
                  rintro e w4 ⟨rfl, hi4, hk4⟩
                  have HS4 := Av.mk (HS3.out.byIn hi4 hk4)
                  clear hi4 hk4
                  have hsl := run_tail la B1.length lc
                  obtain ⟨ad, cs, hsv, HT⟩ := tail_of HS4.out.law
                  rw [hsv] at hsl
                  clear hsv
                  go_wp2_with fail
                  have HS5 := Av.mk (HS4.out.byLaw HT.out.1 (Keep.refl _ _) (fun k hk => .inl (HT.out.2 k hk)))
                  refine ⟨⟨k + 1, rv', _, _, _, qv', B1, ad, cs, made + 1, by omega, by go_num, rfl, HS5.out, ⟨(HI.out.1.go HRN.out).mono (by omega), by have := HI.out.2; omega⟩⟩, ?_⟩
                  simp [intOf]
                  omega
              · obtain rfl : wt = false := by rw [HW.out]; simpa using hm
                by_cases hno : Q ≠ [] ∨ W ≠ 0 ∨ 0 < Maps.size D
                · have HC := Av.mk (Write_add HS2.out.gate id i0 (by omega) HIN.out hm (by omega) hno)
                  have HM := Av.mk hm
                  clear hno hm
                  go_wp2_with fail
                  refine HC.out.mono ?_
                  rintro e w3 ⟨rv', qv', rfl, hg3, hk3, hr3, hq3⟩
                  have HS3 := Av.mk (HS2.out.byGate hg3 hk3 hr3 hq3)
                  clear hg3 hk3 hr3 hq3
                  have hba := below_alloc (Below.refl _ w3) (.cells #[.int .i64 id] 3)
                  have HS4 := Av.mk (HS3.out.below hba)
                  have X4 := Av.mk (Blk.new w3 3 #[.int .i64 id])
                  have hbs : w.heap.size ≤ w3.heap.size := HS3.out.bel.size
                  clear hba
                  go_wp2_with (first | (at_builtin; refine wpList_append_q rfl _ _ 45 rfl w.heap.size 3 I3 (.int .i64 0) 8 Try.underlying45 I.out.1 I.out.2.1 I.out.2.2.1 I.out.2.2.2 rfl (.slice la Q.length lc) (ints Q) rfl HS4.out.law ⟨w3.heap.size, 0, none⟩ 1 (.int .i64 id) rfl (X4.out.cell 0) rfl (by simp [ints]; omega) (by decide) (by simp; omega) ?_; intro v' w5 hq5 hg5 hn5; obtain ⟨av, cv, hv', _⟩ := hq5.shape; rw [show (ints Q ++ [Value.int .i64 id]).length = Q.length + 1 from by simp [ints]] at hv'; subst hv'; have HS5 := Av.mk (HS4.out.byLaw (L' := Q ++ [id]) (by rw [ints_snoc]; exact hq5) (grown_keep hg5 (fun k e => e)) hn5); clear hq5 hg5 hn5))
                  refine ⟨⟨k + 1, rv', _, _, _, qv', Q ++ [id], av, cv, made, by omega, by go_num, (by simp), (by rw [show (Q ++ [id]).length = Q.length + 1 from by simp]; exact HS5.out), ⟨HI.out.1.add i0 i1 HNI.out HM.out, by have := HI.out.2; omega⟩⟩, ?_⟩
                  simp [intOf]
                  omega
                · obtain ⟨rfl, rfl, hsz⟩ : Q = [] ∧ W = 0 ∧ Maps.size D = 0 := ⟨Classical.byContradiction fun h => hno (.inl h), Classical.byContradiction fun h => hno (.inr (.inl h)), by have : ¬ 0 < Maps.size D := fun h => hno (.inr (.inr h)); omega⟩
                  have HRN : Av (R = []) := ⟨List.eq_nil_of_length_eq_zero (by have := HI.out.1.size; omega)⟩
                  have HC := Av.mk (Write_new HS2.out.gate id i0 (by omega) HIN.out hsz)
                  clear hno hsz hm
                  go_wp2_with fail
                  refine HC.out.mono ?_
                  rintro e w3 ⟨rv', qv', rfl, hg3, hk3, hr3, hq3⟩
                  have HS3 := Av.mk (HS2.out.byGate hg3 hk3 hr3 hq3)
                  clear hg3 hk3 hr3 hq3
                  have hmd := HI.out.2
                  have HCI := Av.mk (in_calls HS3.out.ins id (by omega))
                  go_wp2_with fail
                  refine HCI.out.mono ?_
                  rintro e w4 ⟨rfl, hi4, hk4⟩
                  have HS4 := Av.mk (HS3.out.byIn hi4 hk4)
                  clear hi4 hk4
                  go_wp2_with fail
                  refine ⟨⟨k + 1, rv', _, _, _, qv', [], la, lc, made + 1, by omega, by go_num, rfl, HS4.out, ⟨(HI.out.1.new i0 i1 HRN.out).mono (by omega), by have := HI.out.2; omega⟩⟩, ?_⟩
                  simp [intOf]
                  omega
          · have t0 : (x % 4 == 0) = false := by rw [h4]; rfl
            have t1 : (x % 4 == 1) = false := by rw [h4]; rfl
            have t2 : (x % 4 == 2) = true := by rw [h4]; rfl
            clear h4
            obtain ⟨bi, hbi⟩ : ∃ b, isIn D W id = b := ⟨_, rfl⟩
            cases bi
            case false =>
              have HC := Av.mk (Leave_no HS.out.gate id i0 (by omega) hbi)
              clear hbi
              go_wp2_with fail
              refine HC.out.mono ?_
              rintro e w2 ⟨rfl, hb⟩
              have HS2 := Av.mk (HS.out.below hb)
              clear hb
              go_wp2_with fail
              refine ⟨⟨k + 1, rv, D, R, W, qv, Q, la, lc, made, by omega, by go_num, rfl, HS2.out, ⟨HI.out.1.mono (by omega), by have := HI.out.2; omega⟩⟩, ?_⟩
              simp [intOf]
              omega
            case true =>
              have HC := Av.mk (Leave_yes HS.out.gate id i0 (by omega) hbi)
              clear hbi
              go_wp2_with fail
              refine HC.out.mono ?_
              rintro e w2 ⟨rv', qv', rfl, hg2, hk2, hr2, hq2⟩
              have HS2 := Av.mk (HS.out.byGate hg2 hk2 hr2 hq2)
              clear hg2 hk2 hr2 hq2
              go_wp2_with fail
              refine ⟨⟨k + 1, rv', _, _, _, qv', Q, la, lc, made, by omega, by go_num, rfl, HS2.out, ⟨(HI.out.1.leave HS.out.gate.rm.tidy id).mono (by omega), by have := HI.out.2; omega⟩⟩, ?_⟩
              simp [intOf]
              omega
          · have t0 : (x % 4 == 0) = false := by rw [h4]; rfl
            have t1 : (x % 4 == 1) = false := by rw [h4]; rfl
            have t2 : (x % 4 == 2) = false := by rw [h4]; rfl
            clear h4
            go_wp2_with fail
            refine ⟨⟨k + 1, rv, D, R, W, qv, Q, la, lc, made, by omega, by go_num, rfl, HS.out, ⟨HI.out.1.mono (by omega), by have := HI.out.2; omega⟩⟩, ?_⟩
            simp [intOf]
            omega
    · obtain rfl : k = n := by omega
      clear HA hlt hk
      obtain ⟨w9, rfl⟩ : ∃ w9 : World, w9 = wr := ⟨_, rfl⟩
      have hmd := HI.out.2
      go_wp2_with fail
      go_loopw [99] (fun i wr => ∃ (j : Nat) (rv : Value) (D : DataW Unit) (R : List Int) (W : Int) (qv : Value), j ≤ 8 ∧ i = .int .i64 j ∧ St w wr p3 p6 g gt bm bs rv D W qv Q (.slice la Q.length lc) Q made ∧ Av (GInv D R W Q k ∧ ∀ t : Int, 0 ≤ t → t < j → t ∉ R ∧ W ≠ t + 1)) (fun i _ => 8 - (intOf i).toNat)
      case atStart => exact ⟨0, _, _, _, _, _, by omega, rfl, HS.out, ⟨HI.out.1, fun t h0 h1 => by omega⟩⟩
      case round =>
        obtain ⟨j, rv', D', R', W', qv', hj, rfl, hs, HJ⟩ := hrel
        obtain ⟨wA, rfl⟩ : ∃ wA : World, wA = wr := ⟨_, rfl⟩
        have HSA := Av.mk hs
        clear hs HS
        by_cases hlj : j < 8
        · obtain ⟨bi, hbi⟩ : ∃ b, isIn D' W' (j : Int) = b := ⟨_, rfl⟩
          cases bi
          case false =>
            have HC := Av.mk (Leave_no HSA.out.gate j (by omega) (by omega) hbi)
            have HN : Av ((j : Int) ∉ R' ∧ W' ≠ (j : Int) + 1) := ⟨by rw [HJ.out.1.isIn] at hbi; simpa using hbi⟩
            clear hbi
            go_wp2_with fail
            refine HC.out.mono ?_
            rintro e wB ⟨rfl, hb⟩
            have HSB := Av.mk (HSA.out.below hb)
            clear hb
            go_wp2_with fail
            go_roundw
            case rel => exact ⟨j + 1, rv', D', R', W', qv', by omega, by go_num, HSB.out, ⟨HJ.out.1, fun t h0 h1 => by
              by_cases e : t = j
              · subst e; exact HN.out
              · exact HJ.out.2 t h0 (by omega)⟩⟩
            case measure => simp [intOf]; omega
          case true =>
            have HC := Av.mk (Leave_yes HSA.out.gate j (by omega) (by omega) hbi)
            clear hbi
            go_wp2_with fail
            refine HC.out.mono ?_
            rintro e wB ⟨rv2, qv2, rfl, hg2, hk2, hr2, hq2⟩
            have HSB := Av.mk (HSA.out.byGate hg2 hk2 hr2 hq2)
            clear hg2 hk2 hr2 hq2
            go_wp2_with fail
            go_roundw
            case rel => exact ⟨j + 1, rv2, _, _, _, qv2, by omega, by go_num, HSB.out, ⟨HJ.out.1.leave HSA.out.gate.rm.tidy j, fun t h0 h1 => by
              by_cases e : t = j
              · subst e; exact HJ.out.1.left _ (by omega)
              · have h2 := HJ.out.2 t h0 (by omega)
                refine ⟨fun h => h2.1 (List.mem_of_mem_erase h), ?_⟩
                unfold lvW
                split
                · omega
                · exact h2.2⟩⟩
            case measure => simp [intOf]; omega
        · have hj8 : 8 ≤ j := by omega
          obtain rfl : R' = [] := List.eq_nil_iff_forall_not_mem.2 fun t ht => by
            have h1 := HJ.out.1.rb t ht
            exact (HJ.out.2 t (by omega) (by omega)).1 ht
          obtain rfl : W' = 0 := by
            have h1 := HJ.out.1.wb
            have h2 := (HJ.out.2 (W' - 1))
            rcases Classical.em (W' = 0) with h | h
            · exact h
            · exact absurd (show W' = W' - 1 + 1 by omega) (h2 (by omega) (by omega)).2
          have HG := Av.mk HJ.out.1
          have hql : Q.length ≤ 200 := by have := HG.out.ql; omega
          clear HJ
          go_wp2_with fail
          clear hj hlj hj8
          obtain ⟨j8, hj8⟩ : ∃ j8, j8 = j := ⟨_, rfl⟩
          subst hj8
          go_loopw [107] (fun i wr => ∃ (j : Nat) (rv : Value) (D : DataW Unit) (qv : Value), j ≤ Q.length ∧ i = .int .i64 j ∧ St w wr p3 p6 g gt bm bs rv D 0 qv (Q.drop j) (.slice la Q.length lc) Q made ∧ Av (GInv D [] 0 (Q.drop j) k)) (fun i _ => Q.length - (intOf i).toNat)
          case atStart => exact ⟨0, _, _, _, Nat.zero_le _, rfl, HSA.out, HG⟩
          case round =>
            obtain ⟨j, rv3, D3, qv3, hj, rfl, hs, HJ⟩ := hrel
            obtain ⟨wC, rfl⟩ : ∃ wC : World, wC = wr := ⟨_, rfl⟩
            have HSC := Av.mk hs
            clear hs HSA HG
            by_cases hlj : j < Q.length
            · obtain ⟨gq, of2, cap, hv, _, hql2, hcap, hcells⟩ := HSC.out.law.at (by simp [ints]; omega)
              simp [ints] at hv
              obtain ⟨rfl, rfl⟩ := hv
              have hcell := hcells j (by simp [ints]; omega)
              obtain ⟨y, hy⟩ : ∃ y, Q[j]? = some y := ⟨_, List.getElem?_eq_getElem hlj⟩
              simp [ints, hy] at hcell
              have HD : Av (Q.drop j = y :: Q.drop (j + 1)) := ⟨by
                rw [List.drop_eq_getElem_cons hlj]
                congr 1
                have := List.getElem?_eq_getElem hlj
                rw [hy] at this
                injection this with this
                exact this.symm⟩
              clear hcells hy
              have hgi := HJ.out
              rw [HD.out] at hgi
              have hyb := hgi.qb y (by simp)
              have hy0 := hyb.1
              have hy7 := hyb.2
              have HG1 := Av.mk hgi
              have HG2 := Av.mk (hgi.go rfl)
              have hsz := hgi.size
              have hin : isIn D3 0 y = false := by
                rw [hgi.isIn]
                simp
                omega
              have HC := Av.mk (Write_go (by have h := HSC.out.gate; rw [HD.out] at h; exact h) hy0 (by omega) hin (by simp; omega) hsz)
              clear hgi hyb hin hsz
              go_wp2_with fail
              refine HC.out.mono ?_
              rintro e wD ⟨rv4, qv4, rfl, hg2, hk2, hr2, hq2⟩
              have HSD := Av.mk (HSC.out.byGate hg2 hk2 hr2 hq2)
              clear hg2 hk2 hr2 hq2 HC
              have HC2 := Av.mk (Read_no HSD.out.gate 99 (by omega) (by omega) (.inl (by omega)))
              go_wp2_with fail
              refine HC2.out.mono ?_
              rintro e wE ⟨rfl, hb⟩
              have HSE := Av.mk (HSD.out.below hb)
              clear hb HC2
              have HC3 := Av.mk (Leave_yes HSE.out.gate y hy0 (by omega) (by rw [HG2.out.isIn]; simp))
              go_wp2_with fail
              refine HC3.out.mono ?_
              rintro e wF ⟨rv5, qv5, rfl, hg2, hk2, hr2, hq2⟩
              have HSF := Av.mk (HSE.out.byGate hg2 hk2 hr2 hq2)
              have HG3 := Av.mk (HG2.out.leave HSE.out.gate.rm.tidy y)
              rw [show lvW (y + 1) y = 0 from if_pos rfl] at HSF HG3
              clear hg2 hk2 hr2 hq2 HC3
              go_wp2_with fail
              go_roundw
              case rel => exact ⟨j + 1, rv5, _, qv5, by omega, by go_num, HSF.out, HG3⟩
              case measure => simp [intOf]; omega
            · obtain rfl : j = Q.length := by omega
              have hdl : Q.drop Q.length = [] := List.drop_length
              rw [hdl] at HSC HJ
              clear hdl hlj hj
              go_upto_region 47 with (fail)
              have hgi := HJ.out
              have HSd : Av (St w wC.drew p3 p6 g gt bm bs rv3 D3 0 qv3 [] (.slice la Q.length lc) Q made) := ⟨HSC.out.below (below_drewN (Below.refl _ _) 1)⟩
              have HW1 := Av.mk (Waiting_calls HSd.out.gate)
              have HR1 := Av.mk (Read_yes HSd.out.gate 99 (by omega) (by omega) (by rw [hgi.isIn]; simp) (by rw [hgi.size]; simp))
              clear hgi
              go_region_with (first | (go_at_call 19; refine HW1.out.mono ?_; rintro e _ ⟨rfl, rfl⟩) | (go_at_call 15; refine HR1.out.mono ?_; rintro e wG ⟨rv4, qv4, rfl, hg2, hk2, hr2, hq2⟩; have HSG := Av.mk (HSd.out.byGate hg2 hk2 hr2 hq2); clear hg2 hk2 hr2 hq2; have c3 := HSG.out.ins.tp.cell 0; have l3 := HSG.out.ins.tp.lt; have c6 := HSG.out.ins.sp.cell 0; have l6 := HSG.out.ins.sp.lt; simp at c3 c6; obtain ⟨S, hS, hSr⟩ := HSG.out.ins.seen; have hlen := fun ty => hS.len (t := 44) Try.underlying44 ty; rw [hSr.size] at hlen; clear hS hSr) | (go_at_call 10; refine (lenR gt 1024 bm 0 made wG HSG.out.ins.tab).mono ?_; rintro e _ ⟨rfl, rfl⟩))
              all_goals
                go_wp2
                go_ret
                exact ⟨rfl, HSG.out.bel⟩
end Go.Proofs.Ytjehcdedljckbaa
