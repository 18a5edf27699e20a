/- tree.names. -/
import Derived.Test.YtkmojgdjapfbbaaDoorNm
namespace Go.Proofs.YtkmojgdjapfbbaaDoor
open Go.RowKit Go.Maps
set_option linter.unusedSimpArgs false
set_option linter.unusedVariables false

/-- Does one name come ahead of another one? -/
def ltS (a b : ByteArray) : Bool := Op.bytesLess a.toList b.toList
/-- Are these names, rising? -/
def nmB : Option ByteArray → List ByteArray → Bool
  | _, [] => true
  | q, s :: l => nameOk s && (match q with | none => true | some q => ltS q s) && nmB (some s) l
def T.namesOk (t : T) : Bool := nmB none t.names && decide (t.names.length = t.items.length)
def prv (l : List ByteArray) : Nat → Option ByteArray
  | 0 => none
  | k + 1 => l[k]?
theorem Sl.str {B : Nat → Prop} {w : World} {l : List ByteArray} {A : Option Addr} {c k : Nat} {s : ByteArray} (h : Sl B w 1 (.slice A l.length c) l.length (l.map Value.string)) (hs : l[k]? = some s) :
    ∃ b off, A = some ⟨b, off, none⟩ ∧ B b ∧ b < w.heap.size ∧ l.length ≤ c ∧ w.cell? ⟨b, off + k, none⟩ = some (.string s) ∧ ∀ (j : Nat) (u : ByteArray), l[j]? = some u → w.cell? ⟨b, off + j, none⟩ = some (.string u) := by
  have hk := (List.getElem?_eq_some_iff.1 hs).1
  obtain ⟨b, off, rfl, hc, hB, hb, hcells⟩ := h.at (by omega)
  have hall : ∀ (j : Nat) (u : ByteArray), l[j]? = some u → w.cell? ⟨b, off + j, none⟩ = some (.string u) := fun j u hu => by
    have hj := (List.getElem?_eq_some_iff.1 hu).1
    rw [hcells j (by omega), List.getElem?_map, hu]
    rfl
  exact ⟨b, off, rfl, hB, hb, hc, hall k s hs, hall⟩
set_option maxHeartbeats 2000000 in
theorem names_calls {B : Nat → Prop} {w : World} {p : NV} {t : T} (h : Rep B w p t) (hl : t.names.length ≤ 1000000000) (hl2 : t.items.length ≤ 1000000000) (hN : ∀ s ∈ t.names, NameC s ∧ s.size ≤ 1000000000) : Calls Tryd.prog 86 #[nodeV p t] w (RetB (.bool t.namesOk) w) := by
  have hns := h.names
  obtain ⟨An, cn, Ai, ci, Ae, ce, rfl⟩ := h.parts
  obtain ⟨k, o, ns, its, sz, ex, tg⟩ := t
  show Calls Tryd.prog 86 #[.agg #[.int .i64 k, .bool o, .slice An ns.length cn, .slice Ai its.length ci, .int .i64 sz, .slice Ae ex.length ce, .string tg]] w _
  simp only [T.names, T.items] at hns hN hl hl2
  have HT : Av (T.namesOk (.node k o ns its sz ex tg) = (nmB none ns && decide (ns.length = its.length))) := ⟨rfl⟩
  generalize T.namesOk (.node k o ns its sz ex tg) = R at *
  clear h
  go_enter Tryd.func86, Tryd.ntmps86
  go_wp2_with fail
  have X := Av.mk (Blk.new w 33 #[.int .i64 k, .bool o, .slice An ns.length cn, .slice Ai its.length ci, .int .i64 sz, .slice Ae ex.length ce, .string tg])
  have hb0 := below_alloc (Below.refl _ w) (.cells #[.int .i64 k, .bool o, .slice An ns.length cn, .slice Ai its.length ci, .int .i64 sz, .slice Ae ex.length ce, .string tg] 33)
  have HS := Av.mk (hns.grow hb0)
  have HB : Av (Bel w (w.alloc (.cells #[.int .i64 k, .bool o, .slice An ns.length cn, .slice Ai its.length ci, .int .i64 sz, .slice Ae ex.length ce, .string tg] 33))) := ⟨hb0⟩
  clear hns hb0
  generalize w.alloc (.cells #[.int .i64 k, .bool o, .slice An ns.length cn, .slice Ai its.length ci, .int .i64 sz, .slice Ae ex.length ce, .string tg] 33) = w1 at *
  generalize w.heap.size = g at *
  go_loopw [8] (fun i wr => ∃ j : Nat, j ≤ ns.length ∧ i = .int .i64 j ∧ Below w1.heap.size w1 wr ∧ Av (nmB (prv ns j) (ns.drop j) = nmB none ns)) (fun i _ => ns.length - (intOf i).toNat)
  case atStart => exact ⟨0, Nat.zero_le _, rfl, Below.refl _ _, ⟨rfl⟩⟩
  case round =>
    obtain ⟨j, hj, rfl, hb, HX⟩ := hrel
    have HB2 := Av.mk hb
    have X2 := Av.mk (X.out.keep (Keep.of_below (S := fun _ => False) hb) (by simp))
    have c2 := X2.out.cell 2
    have c3 := X2.out.cell 3
    have lx := X2.out.lt
    simp at c2 c3
    clear hb
    by_cases hlt : j < ns.length
    · obtain ⟨s, hs⟩ : ∃ s, ns[j]? = some s := ⟨_, List.getElem?_eq_getElem hlt⟩
      obtain ⟨b, off, rfl, _, hbl, hc, cs, hall⟩ := (HS.out.grow HB2.out).str hs
      have HD := Av.mk (drop_at hs)
      obtain ⟨hC, hsz⟩ := hN s (List.mem_of_getElem? hs)
      obtain ⟨bb, hbb⟩ : ∃ bb, nameOk s = bb := ⟨_, rfl⟩
      have HC := Av.mk (name_calls s hC wr hsz)
      rw [hbb] at HC
      have hx := HX.out
      rw [HD.out] at hx
      simp only [nmB, hbb] at hx
      have HX2 := Av.mk hx
      have HS2 := Av.mk hs
      have HALL := Av.mk hall
      clear hx hs hbb hC hsz hall
      cases bb
      case false =>
        have HR : Av (R = false) := ⟨by rw [HT.out, ← HX2.out]; simp⟩
        go_wp2_with fail
        refine HC.out.mono ?_
        rintro e w2 ⟨rfl, hb2⟩
        have HB3 := Av.mk (below_then HB2.out HB2.out.size hb2)
        clear hb2
        go_wp2_with fail
        go_ret
        exact ⟨retb HR.out, below_then HB.out HB.out.size HB3.out⟩
      case true =>
        cases j with
        | zero =>
          have HN1 : Av (nmB (some s) (ns.drop 1) = nmB none ns) := ⟨by simpa [prv] using HX2.out⟩
          have cs0 : wr.cell? ⟨b, off, none⟩ = some (.string s) := by simpa using cs
          go_wp2_with fail
          refine HC.out.mono ?_
          rintro e w2 ⟨rfl, hb2⟩
          have HB3 := Av.mk (below_then HB2.out HB2.out.size hb2)
          clear hb2
          go_wp2_with fail
          go_roundw
          case rel => exact ⟨1, by omega, rfl, HB3.out, ⟨by rw [show prv ns 1 = some s from HS2.out]; exact HN1.out⟩⟩
          case measure => simp [intOf]; omega
        | succ j =>
          obtain ⟨q, hq⟩ : ∃ q, ns[j]? = some q := ⟨_, List.getElem?_eq_getElem (by omega)⟩
          have cq := HALL.out j q hq
          obtain ⟨lb, hlb⟩ : ∃ lb, ltS q s = lb := ⟨_, rfl⟩
          have hlb2 : Op.bytesLess q.toList s.toList = lb := hlb
          have HN1 : Av ((lb && nmB (some s) (ns.drop (j + 1 + 1))) = nmB none ns) := ⟨by
            have := HX2.out
            rw [show prv ns (j + 1) = some q from hq] at this
            simpa [hlb] using this⟩
          clear hq hlb
          cases lb
          case false =>
            have HR : Av (R = false) := ⟨by rw [HT.out, ← HN1.out]; simp⟩
            go_wp2_with fail
            refine HC.out.mono ?_
            rintro e w2 ⟨rfl, hb2⟩
            have HB3 := Av.mk (below_then HB2.out HB2.out.size hb2)
            have X3 := Av.mk (X2.out.keep (Keep.of_below (S := fun _ => False) hb2) (by simp))
            have d2 := X3.out.cell 2
            have lx3 := X3.out.lt
            have cq3 := hb2.cell (p := ⟨b, off + j, none⟩) hbl
            rw [cq] at cq3
            simp at d2
            clear hb2
            go_wp2_with fail
            go_ret
            exact ⟨retb HR.out, below_then HB.out HB.out.size HB3.out⟩
          case true =>
            go_wp2_with fail
            refine HC.out.mono ?_
            rintro e w2 ⟨rfl, hb2⟩
            have HB3 := Av.mk (below_then HB2.out HB2.out.size hb2)
            have X3 := Av.mk (X2.out.keep (Keep.of_below (S := fun _ => False) hb2) (by simp))
            have d2 := X3.out.cell 2
            have lx3 := X3.out.lt
            have cq3 := hb2.cell (p := ⟨b, off + j, none⟩) hbl
            rw [cq] at cq3
            simp at d2
            clear hb2
            go_wp2_with fail
            go_roundw
            case rel => exact ⟨j + 1 + 1, by omega, by go_num, HB3.out, ⟨by rw [show prv ns (j + 1 + 1) = some s from HS2.out]; simpa using HN1.out⟩⟩
            case measure => simp [intOf]; omega
    · obtain rfl : j = ns.length := by omega
      have hx := HX.out
      rw [List.drop_length] at hx
      simp only [nmB] at hx
      have HR : Av (R = decide (ns.length = its.length)) := ⟨by rw [HT.out, ← hx]; simp⟩
      clear hx
      go_wp2_with fail
      go_ret
      exact ⟨retb (by rw [HR.out]; first | rfl | (apply decide_eq_decide.2; omega)), below_then HB.out HB.out.size HB2.out⟩
end Go.Proofs.YtkmojgdjapfbbaaDoor
