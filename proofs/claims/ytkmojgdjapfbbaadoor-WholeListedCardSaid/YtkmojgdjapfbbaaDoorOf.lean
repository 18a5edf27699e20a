/- extent.Of: the extents of bytes. -/
import Derived.Test.YtkmojgdjapfbbaaDoorEx
import Derived.Test.YtkmojgdjapfbbaaDoorProg
import Derived.Outline
namespace Go.Proofs.YtkmojgdjapfbbaaDoor
open Go.RowKit Go.Maps
set_option linter.unusedSimpArgs false
set_option linter.unusedVariables false

theorem info107 : ∃ i, Tryd.prog.info? 107 = some i ∧ i.zero = some (.agg #[.int .i64 0, .string ⟨#[]⟩]) ∧ i.size = 2 ∧ i.bytes = 24 := by
  have h : (Tryd.prog.info? 107).map (fun i => (i.zero, i.size, i.bytes)) = some (some (.agg #[.int .i64 0, .string ⟨#[]⟩]), 2, 24) := by kernel_rfl
  obtain ⟨i, hi, e⟩ := Option.map_eq_some_iff.1 h
  simp only [Prod.mk.injEq] at e
  exact ⟨i, hi, e.1, e.2.1, e.2.2⟩
/-- A list of extents in a row of the call's own. -/
def ExRow (w : World) (base : Nat) (A : Option Addr) (c : Nat) (E : List Ext) : Prop := w.ownsRow base 107 2 (.slice A E.length c) E.length (exCells E)
theorem exC_one (x : Ext) : ∀ u ∈ exC x, u.oneCell' = true := by
  intro u hu
  simp [exC] at hu
  rcases hu with rfl | rfl <;> rfl
theorem news_at (w : World) (x : Ext) : ∀ (j : Nat) u, (exC x)[j]? = some u → (w.alloc (.cells #[.int .i64 x.1, .string x.2] 107)).cell? ((⟨w.heap.size, 0, none⟩ : Addr).add j) = some u := by
  intro j u hj
  have h := (Blk.new w 107 #[.int .i64 x.1, .string x.2]).cell j
  rw [Addr.add_lit, Nat.zero_add, h, ← hj]
  match j with
  | 0 => rfl
  | 1 => rfl
  | j + 2 => simp [exC]
def OfP (s : ByteArray) (w : World) (e : Ending) (w' : World) : Prop :=
  ∃ A c E, e = .returned (.slice A E.length c) ∧ ExRow w' w.heap.size A c E ∧ OfInv s.data.toList s.size E ∧ E.length ≤ s.size ∧ Below w.heap.size w w'
set_option maxHeartbeats 1000000 in
theorem Of_calls (s : ByteArray) (w : World) (hs : s.size ≤ 1000000000) : Calls Tryd.prog 58 #[.string s] w (OfP s w) := by
  obtain ⟨i0, hi0⟩ := info107
  have I := Av.mk hi0
  clear hi0
  go_enter Tryd.func58, Tryd.ntmps58
  go_wp2_with fail
  go_loopw [3, 4] (fun s3 s4 wr => ∃ (i : Nat) (E : List Ext) (A : Option Addr) (c : Nat), i ≤ s.size + 1 ∧ s4 = .int .i64 i ∧ s3 = .slice A E.length c ∧ ExRow wr w.heap.size A c E ∧ Below w.heap.size w wr ∧ Av (OfInv s.data.toList i E ∧ E.length ≤ i ∧ E.length ≤ s.size)) (fun _ s4 _ => s.size + 1 - (intOf s4).toNat)
  case atStart => exact ⟨0, [], none, 0, by omega, rfl, rfl, ⟨rfl, .inl ⟨rfl, rfl⟩⟩, Below.refl _ _, ⟨OfInv.nil _, by simp, by simp⟩⟩
  case round =>
    obtain ⟨i, E, A, c, hi, rfl, rfl, hr, hb, HI⟩ := hrel
    have HR := Av.mk hr
    have HB := Av.mk hb
    clear hr hb
    by_cases hlt : i < s.size
    · go_wp2_with fail
      go_loop [5] (fun s5 => ∃ k : Nat, i ≤ k ∧ k ≤ s.size ∧ s5 = .int .i64 k) (fun s5 => s.size - (intOf s5).toNat)
      case atStart => exact ⟨i, Nat.le_refl _, by omega, rfl⟩
      case round =>
        obtain ⟨k, hk1, hk2, rfl⟩ := hrel
        by_cases hlk : k < s.size
        · obtain ⟨x, hx⟩ : ∃ x : UInt8, s[k] = x := ⟨_, rfl⟩
          have hgd : s.data.toList.getD k 0 = x := by
            rw [← hx, List.getD_eq_getElem?_getD, List.getElem?_eq_getElem (by rw [← Lib.size_eq]; exact hlk)]
            rfl
          by_cases h0 : x = 0
          · subst h0
            have HZ : Av (k < s.data.toList.length → s.data.toList.getD k 0 = 0) := ⟨fun _ => hgd⟩
            clear hgd
            by_cases hki : i < k
            · have hEl := HI.out.2.2
              go_wp2_with (first | (at_builtin; refine wpList_app rfl _ _ 31 rfl w.heap.size 107 i0 _ 2 24 Tryd.underlying31 I.out.1 I.out.2.1 I.out.2.2.1 I.out.2.2.2 (by rfl) (by decide) (.slice A E.length c) E.length (exCells E) rfl (HR.out.alloc _) ⟨wr.heap.size, 0, none⟩ 1 1 (exC (i, s.extract i k)) rfl rfl (news_at wr (i, s.extract i k)) (exC_one _) (by unfold maxLen; omega) (by omega) (by have := HB.out.size; simp; omega) ?_; intro A' c' w5 ho5 hg5 _; have HO5 := Av.mk ho5; have HG5 := Av.mk hg5; clear ho5 hg5))
              have hnew : ExRow w5 w.heap.size A' c' (E ++ [(i, s.extract i k)]) := by
                unfold ExRow
                rw [exCells_snoc, List.length_append]
                exact HO5.out
              have hb5 : Below w.heap.size w w5 := ((HB.out.alloc HB.out.size _).grown HG5.out (by have := HB.out.size; simp; omega) (fun k hk => row_base HR.out k hk.symm))
              refine ⟨⟨k + 1, E ++ [(i, s.extract i k)], A', c', by omega, by go_num, by simp, hnew, hb5, ⟨(HI.out.1.run hki (by omega)).skip HZ.out, by have := HI.out.2.1; simp; omega, ?_⟩⟩, ?_⟩
              · have := HI.out.2.1
                simp
                omega
              · simp [intOf]
                omega
            · obtain rfl : k = i := by omega
              go_wp2_with fail
              refine ⟨⟨k + 1, E, A, c, by omega, by go_num, rfl, HR.out, HB.out, ⟨HI.out.1.skip HZ.out, by have := HI.out.2.1; omega, HI.out.2.2⟩⟩, ?_⟩
              simp [intOf]
              omega
          · have hxb : ((x.toNat : Int) != 0) = true := by
              have : x.toNat ≠ 0 := fun h => h0 (UInt8.toNat.inj h)
              simp
              omega
            clear hgd h0
            go_wp2_with fail
            go_round
            case rel => exact ⟨k + 1, by omega, by omega, by go_num⟩
            case measure => simp [intOf]; omega
        · have HZ : Av (k < s.data.toList.length → s.data.toList.getD k 0 = 0) := ⟨fun h => by rw [← Lib.size_eq] at h; omega⟩
          · by_cases hki : i < k
            · have hEl := HI.out.2.2
              go_wp2_with (first | (at_builtin; refine wpList_app rfl _ _ 31 rfl w.heap.size 107 i0 _ 2 24 Tryd.underlying31 I.out.1 I.out.2.1 I.out.2.2.1 I.out.2.2.2 (by rfl) (by decide) (.slice A E.length c) E.length (exCells E) rfl (HR.out.alloc _) ⟨wr.heap.size, 0, none⟩ 1 1 (exC (i, s.extract i k)) rfl rfl (news_at wr (i, s.extract i k)) (exC_one _) (by unfold maxLen; omega) (by omega) (by have := HB.out.size; simp; omega) ?_; intro A' c' w5 ho5 hg5 _; have HO5 := Av.mk ho5; have HG5 := Av.mk hg5; clear ho5 hg5))
              have hnew : ExRow w5 w.heap.size A' c' (E ++ [(i, s.extract i k)]) := by
                unfold ExRow
                rw [exCells_snoc, List.length_append]
                exact HO5.out
              have hb5 : Below w.heap.size w w5 := ((HB.out.alloc HB.out.size _).grown HG5.out (by have := HB.out.size; simp; omega) (fun k hk => row_base HR.out k hk.symm))
              refine ⟨⟨k + 1, E ++ [(i, s.extract i k)], A', c', by omega, by go_num, by simp, hnew, hb5, ⟨(HI.out.1.run hki (by omega)).skip HZ.out, by have := HI.out.2.1; simp; omega, ?_⟩⟩, ?_⟩
              · have := HI.out.2.1
                simp
                omega
              · simp [intOf]
                omega
            · obtain rfl : k = i := by omega
              go_wp2_with fail
              refine ⟨⟨k + 1, E, A, c, by omega, by go_num, rfl, HR.out, HB.out, ⟨HI.out.1.skip HZ.out, by have := HI.out.2.1; omega, HI.out.2.2⟩⟩, ?_⟩
              simp [intOf]
              omega
    · have h1 : min i s.data.toList.length = min s.size s.data.toList.length := by rw [← Lib.size_eq]; omega
      have HE : Av (OfInv s.data.toList s.size E) := ⟨⟨by rw [← h1]; exact HI.out.1.ord, fun p hp hq => HI.out.1.at_ p (by omega) hq⟩⟩
      clear h1
      go_wp2_with fail
      go_ret
      exact ⟨A, c, E, rfl, HR.out, HE.out, HI.out.2.2, HB.out⟩
end Go.Proofs.YtkmojgdjapfbbaaDoor
