/- New shards. -/
import Derived.Test.YtiopmehaghcpfaaFam
import Derived.Deep.AppendLies
import Derived.Deep.RegionLaw
namespace Go.Proofs.Ytiopmehaghcpfaa
open Go.RowKit Go.Maps
attribute [local go_sem ↓] run_max_int run_min_int

theorem row_up (G : Nat → Nat) (i x : Nat) : (List.range (i + 1)).map (fun j => Value.pointer (some ⟨up G i x j, 0, none⟩)) = (List.range i).map (fun j => Value.pointer (some ⟨G j, 0, none⟩)) ++ [.pointer (some ⟨x, 0, none⟩)] := by
  rw [List.range_succ, List.map_append, List.map_cons, List.map_nil, up_same]
  congr 1
  apply List.map_congr_left
  intro j hj
  rw [up_other]
  have := List.mem_range.1 hj
  omega

/-- A cache more in the shards. -/
theorem shb_grow {wr w2 w4 : World} {b0 g i base m : Nat} {v v4 : Value} {G : Nat → Nat} {R : Nat → Int} {V : Nat → Value} {Ls : Nat → List (ByteArray × Int)} {r : Int} {o : Obj}
    (hS : Shb wr b0 g i v (fun j => G (m + j))) (hF : Fam wr base (m + i) R G V Ls) (hbase : base ≤ wr.heap.size) (hl2 : LruS w2 wr.heap.size wr.heap.size r (.slice none 0 0) []) (hb2 : Below wr.heap.size wr w2)
    (hg : (w2.alloc o).grownBy w4 v.ownBlock) (ho : w4.ownsRow b0 33 1 v4 (i + 1) ((List.range i).map (fun j => Value.pointer (some ⟨G (m + j), 0, none⟩)) ++ [.pointer (some ⟨wr.heap.size, 0, none⟩)])) :
    Shb (w4.setCell ⟨g, 0, none⟩ v4) b0 g (i + 1) v4 (fun j => up G (m + i) wr.heap.size (m + j)) ∧
    Fam (w4.setCell ⟨g, 0, none⟩ v4) base (m + i + 1) (up R (m + i) r) (up G (m + i) wr.heap.size) (up V (m + i) (.slice none 0 0)) (up Ls (m + i) []) ∧
    Keep (fun k => k = g ∨ some k = v.ownBlock) wr (w4.setCell ⟨g, 0, none⟩ v4) := by
  have hS2 := hS.below hb2
  have hF2 := hF.new rfl hbase hl2 hb2
  have hk1 : Keep (fun k => some k = v.ownBlock) w2 w4 := ((Keep.refl _ w2).alloc o).grown hg (fun k hk _ => hk.symm)
  have hb4 : Blk w4 g 129 #[v] := hS2.blk.keep hk1 (row_ne hS2.row hS2.blk (by decide))
  have hk2 : Keep (fun k => k = g) w4 (w4.setCell ⟨g, 0, none⟩ v4) := (Keep.refl (fun k => k = g) w4).setCell (p := ⟨g, 0, none⟩) (fun _ => rfl) v4
  have hF4 : Fam w4 base (m + i + 1) (up R (m + i) r) (up G (m + i) wr.heap.size) (up V (m + i) (.slice none 0 0)) (up Ls (m + i) []) :=
    hF2.keep hk1 (fun j hj => row_ne hS2.row (hF2.lru j hj).blk (by decide)) (fun j k hj hk => row_ne_row (hF2.lru j hj).row hS2.row (by decide) k hk)
  refine ⟨⟨by simpa using hb4.set_ 0 v4, ?_⟩, hF4.keep hk2 (fun j hj e => hb4.ne_ (hF4.lru j hj).blk (by decide) e.symm) (fun j k hj hk e => row_ne (hF4.lru j hj).row hb4 (by decide) (by rw [hk, e])), ?_⟩
  · have := row_keep ho hk2 (fun k hk e => row_ne ho hb4 (by decide) (by rw [hk, e]))
    rw [← row_up (fun j => G (m + j)) i wr.heap.size] at this
    have e : (fun j => up G (m + i) wr.heap.size (m + j)) = up (fun j => G (m + j)) i wr.heap.size := by
      funext j
      unfold up
      by_cases h : j = i
      · rw [if_pos h, if_pos (by omega)]
      · rw [if_neg h, if_neg (by omega)]
    have e2 : (fun j => Value.pointer (some ⟨up G (m + i) wr.heap.size (m + j), 0, none⟩)) = fun j => Value.pointer (some ⟨up (fun j => G (m + j)) i wr.heap.size j, 0, none⟩) := by
      funext j
      rw [← congrFun e j]
    rw [e2]
    exact this
  · have hk0 : Keep (fun k => k = g ∨ some k = v.ownBlock) wr w2 := Keep.of_below hb2
    exact (hk0.trans (hk1.mono (fun _ _ h => .inr h))).trans (hk2.mono (fun _ _ h => .inl h))

theorem Fam.congr {w : World} {base m : Nat} {R R' : Nat → Int} {G G' : Nat → Nat} {V V' : Nat → Value} {Ls Ls' : Nat → List (ByteArray × Int)} (h : Fam w base m R G V Ls)
    (e : ∀ i, i < m → R' i = R i ∧ G' i = G i ∧ V' i = V i ∧ Ls' i = Ls i) : Fam w base m R' G' V' Ls' := by
  refine ⟨fun i hi => ?_, fun i hi => ?_, fun i j hi hj h' => ?_, fun i j k hi hj h1 h2 => ?_⟩
  · obtain ⟨e1, e2, e3, e4⟩ := e i hi
    rw [e1, e2, e3, e4]; exact h.lru i hi
  · rw [(e i hi).2.1]; exact h.ge i hi
  · rw [(e i hi).2.1, (e j hj).2.1] at h'; exact h.gs i j hi hj h'
  · rw [(e i hi).2.2.1] at h1; rw [(e j hj).2.2.1] at h2; exact h.vs i j k hi hj h1 h2

/-- A family that goes on where another ends. -/
def joinF {α : Type} (m : Nat) (f : Nat → α) (x : α) : Nat → α := fun i => if i < m then f i else x
theorem join_up {α : Type} (m : Nat) (f : Nat → α) (x : α) (k i : Nat) : joinF m f x i = up (joinF m f x) (m + k) x i := by
  unfold up joinF
  by_cases h : i = m + k
  · rw [if_pos h, if_neg (by omega)]
  · rw [if_neg h]
theorem info33 : ∃ i, Try.prog.info? 33 = some i ∧ i.zero = some (.pointer none) ∧ i.size = 1 ∧ i.bytes = 8 := by
  have h : (Try.prog.info? 33).map (fun i => (i.zero, i.size, i.bytes)) = some (some (.pointer none), 1, 8) := by kernel_rfl
  obtain ⟨i, hi, e⟩ := Option.map_eq_some_iff.1 h
  simp only [Prod.mk.injEq] at e
  exact ⟨i, hi, e.1, e.2.1, e.2.2⟩

/-- Shards made: caches m .. m + n - 1 of the family. -/
def SNew (base m n : Nat) (R : Nat → Int) (G : Nat → Nat) (V : Nat → Value) (Ls : Nat → List (ByteArray × Int)) (room : Int) (w : World) (e : Ending) (w' : World) : Prop :=
  ∃ (v : Value) (G' : Nat → Nat) (V' : Nat → Value), e = .returned (.pointer (some ⟨w.heap.size, 0, none⟩)) ∧ Below w.heap.size w w' ∧ Shb w' w.heap.size w.heap.size n v (fun j => G' (m + j)) ∧
    Fam w' base (m + n) (joinF m R (mx room 1)) G' V' (joinF m Ls []) ∧ ∀ j, j < m → G' j = G j ∧ V' j = V j

set_option maxRecDepth 100000 in
set_option maxHeartbeats 4000000 in
theorem snew_calls (many room : Int) (n : Nat) (hn : mn (mx many 1) 256 = (n : Int)) (hn1 : 1 ≤ n) (hn2 : n ≤ 256) (base m : Nat) (R : Nat → Int) (G : Nat → Nat) (V : Nat → Value) (Ls : Nat → List (ByteArray × Int)) (w : World) (hF : Fam w base m R G V Ls) (hbase : base ≤ w.heap.size) :
    Calls Try.prog 20 #[.int .i64 many, .int .i64 room] w (SNew base m n R G V Ls room w) := by
  obtain ⟨i0, hi0⟩ := info33
  have I := Av.mk hi0
  have HN := Av.mk hn
  have HF0 := Av.mk (show Fam w base m (joinF m R (mx room 1)) G V (joinF m Ls []) from hF.congr (fun i hi => by simp [joinF, hi]))
  clear hi0 hF hn
  go_enter Try.func20, Try.ntmps20
  go_wp2_with fail
  rw [HN.out]
  have hS0 := Av.mk (show Shb (w.alloc (.cells #[.slice none 0 0] 129)) w.heap.size w.heap.size 0 (.slice none 0 0) (fun j => G (m + j)) from ⟨Blk.new w 129 #[.slice none 0 0], rfl, .inl ⟨rfl, rfl⟩⟩)
  have HF := Av.mk (HF0.out.below (below_alloc (Below.refl _ w) (.cells #[.slice none 0 0] 129)))
  have HB := Av.mk (below_alloc (Below.refl _ w) (.cells #[.slice none 0 0] 129))
  clear HF0
  generalize w.alloc (.cells #[.slice none 0 0] 129) = w1 at *
  go_wp2_with fail
  go_loopw [11] (fun i wr => ∃ (k : Nat) (v : Value) (G' : Nat → Nat) (V' : Nat → Value), k ≤ n ∧ i = .int .i64 k ∧ Shb wr w.heap.size w.heap.size k v (fun j => G' (m + j)) ∧ Fam wr base (m + k) (joinF m R (mx room 1)) G' V' (joinF m Ls []) ∧ Below w.heap.size w wr ∧ Av (∀ j, j < m → G' j = G j ∧ V' j = V j)) (fun i _ => n - (intOf i).toNat)
  case atStart => exact ⟨0, _, G, V, Nat.zero_le _, rfl, hS0.out, HF.out, HB.out, ⟨fun _ _ => ⟨rfl, rfl⟩⟩⟩
  case round =>
    obtain ⟨k, v, G', V', hk, rfl, hs, hf, hb, HE⟩ := hrel
    have HS := Av.mk hs
    have HF2 := Av.mk hf
    have HB2 := Av.mk hb
    clear hs hf hb HF HB hS0
    by_cases hlt : k < n
    · have c0 := HS.out.blk.cell 0
      have f0 := HS.out.blk.frozen 0
      have lt0 := HS.out.blk.lt
      simp at c0
      obtain ⟨A, cc, rfl⟩ := own_slice HS.out.row
      go_upto_region 4 with (fail)
      go_region_law (first
        | (go_simp; go_at_call 18; refine (new_S room wr.drew).mono ?_; rintro e w2 ⟨rfl, hl2, hb2⟩; have HL2 := Av.mk hl2; have HBB := Av.mk (show Below wr.heap.size wr w2 from ⟨hb2.os, hb2.tape, hb2.output, hb2.size, hb2.block⟩); have HS2 := Av.mk (HS.out.below HBB.out); have c02 := HS2.out.blk.cell 0; have f02 := HS2.out.blk.frozen 0; have lt02 := HS2.out.blk.lt; simp at c02; clear hl2 hb2)
        | (refine step_append_lies _ rfl (.tmp 17) (.tmp 20) 90 rfl w.heap.size 33 i0 (.pointer none) 1 8 Try.underlying90 I.out.1 I.out.2.1 I.out.2.2.1 I.out.2.2.2 rfl (by decide) (.slice A k cc) k _ (by simp [Act.eval, Act.put]) (row_keep HS2.out.row ((Keep.refl (fun _ => False) w2).alloc (.cells #[.pointer (some ⟨wr.heap.size, 0, none⟩)] 33)) (by simp)) ⟨w2.heap.size, 0, none⟩ 1 1 [.pointer (some ⟨wr.heap.size, 0, none⟩)] (by simp [Act.eval, Act.put]) rfl (new_cells w2 [.pointer (some ⟨wr.heap.size, 0, none⟩)] 33) (by simp [Value.oneCell']) (by decide) (by unfold maxLen; omega) (by omega) (by simp; omega) _ rfl ?_; intro gr cr w4 hown hgrow hat hgl; have HO := Av.mk hown; have HG := Av.mk hgrow; have b4 : Blk w4 w.heap.size 129 #[.slice A k cc] := (HS2.out.blk.alloc _).grown hgrow (row_ne HS2.out.row HS2.out.blk (by decide)); have c04 := b4.cell 0; have f04 := b4.frozen 0; simp at c04; clear hown hgrow hat b4))
      all_goals
        have HQ := Av.mk (shb_grow HS.out HF2.out (Nat.le_trans hbase HB2.out.size) HL2.out HBB.out HG.out HO.out)
        have hge : ∀ i, (Value.slice A k cc).ownBlock = some i → w.heap.size ≤ i := fun i hi => row_ge HS.out.row hi
        have HB4 := Av.mk (below_keep HB2.out HB2.out.size HQ.out.2.2 (by rintro i (rfl | e); exact Nat.le_refl _; exact hge i e.symm))
        have HF4 := Av.mk (HQ.out.2.1.congr (R' := joinF m R (mx room 1)) (G' := up G' (m + k) wr.heap.size) (V' := up V' (m + k) (.slice none 0 0)) (Ls' := joinF m Ls []) (fun i hi => ⟨join_up m R _ k i, rfl, rfl, join_up m Ls _ k i⟩))
        have HS4 := Av.mk HQ.out.1
        have hlt4 : w.heap.size + k < w.heap.size + k + 1 := by omega
        have hwr : w.heap.size ≤ wr.heap.size := by omega
        clear HL2 HBB HS2 HG HO HS HF2 c0 f0 c02 f02 c04 f04 HQ
        generalize w4.setCell _ _ = w5 at *
        generalize wr.heap.size = gi at *
        go_wp2_with fail
        go_roundw
        case rel => exact ⟨k + 1, _, _, _, by omega, by go_num, HS4.out, HF4.out, HB4.out, ⟨fun j hj => by rw [up_other _ _ _ (by omega), up_other _ _ _ (by omega)]; exact HE.out j hj⟩⟩
        case measure => simp [intOf]; omega
    · obtain rfl : k = n := by omega
      go_wp2
      go_ret
      exact ⟨v, G', V', rfl, HB2.out, HS.out, HF2.out, HE.out⟩
end Go.Proofs.Ytiopmehaghcpfaa
