/- Opening of trees that came in. -/
import Derived.Test.YtkmojgdjapfbbaaDoorOp
import Derived.Test.YtkmojgdjapfbbaaDoorAl
namespace Go.Proofs.YtkmojgdjapfbbaaDoor
open Go.ChangeShapes Go.WideShapes Go.ChangeAt Go.RowKit Go.Deep
set_option linter.unusedSimpArgs false
set_option linter.unusedVariables false
section
variable {H : Type} {enc : TypeId × Value → H} {w : World} {base : Nat} {spare : Nat → Bool} {held : Bool}
def Lt (w : World) (k : Nat) : Prop := k < w.heap.size
/-- The elements of a slice, each told by p. -/
theorem open_elems {P : Program} {t e : TypeId} {m n : Nat} {cs : List Value} {x : DataW H × List MemPlace} {α : Type} {p : List Value → α → Prop} (ht : P.underlying t = some (.slice e)) (hC : P.cellsOf e = m) (hm : 0 < m) (hB : 0 < P.bytesOf e)
    (h : DataW.trod enc P w base spare held (n + 1) t cs = some x) (hw : (x.1.weights P t).all (· ≤ reachBytes) = true)
    (hp : ∀ cs' y, DataW.trod enc P w base spare held n e cs' = some y → (y.1.weights P e).all (· ≤ reachBytes) = true → cs'.length = m → ∃ a, p cs' a) :
    ∃ (A : Option Addr) (c : Nat) (css : List (List Value)) (l : List α), cs = [.slice A l.length c] ∧ css.length = l.length ∧ l.length ≤ 140737488355328 ∧ Sl (Lt w) w m (.slice A l.length c) l.length css.flatten ∧
      ∀ (i : Nat) c' a, css[i]? = some c' → l[i]? = some a → c'.length = m ∧ p c' a := by
  rcases DataW.trod_slice ht h with ⟨rfl, _⟩ | ⟨a, len, cap, elems, rest, n', hn, rfl, rfl, hb, hl, hcap, hlen, hel, _, _⟩
  · exact ⟨none, 0, [], [], rfl, rfl, by simp, Sl.nil _ _ _ none 0, fun i c' a h => by simp at h⟩
  · obtain rfl : n = n' := by omega
    have hw2 : (elems.length + rest.length) * P.bytesOf e ≤ reachBytes ∧ ∀ y ∈ elems, (y.1.weights P e).all (· ≤ reachBytes) = true := by
      unfold DataW.weights at hw
      rw [ht] at hw
      simp only [List.all_cons, List.all_append, Bool.and_eq_true, decide_eq_true_eq, List.length_map] at hw
      refine ⟨hw.1, ?_⟩
      have hg : ∀ L : List (DataW H × List MemPlace), (DataW.weightsAll P e (L.map (·.1))).all (· ≤ reachBytes) = true → ∀ y ∈ L, (y.1.weights P e).all (· ≤ reachBytes) = true := by
        intro L
        induction L with
        | nil => intro _ y hy; cases hy
        | cons z L ih =>
          intro h y hy
          simp only [List.map_cons, DataW.weightsAll, List.all_append, Bool.and_eq_true] at h
          rcases List.mem_cons.1 hy with rfl | hy
          · exact h.1
          · exact ih h.2 y hy
      exact hg elems hw.2.1
    have hlr : len ≤ 140737488355328 := by
      have h1 := hw2.1
      have h2 : len * 1 ≤ (elems.length + rest.length) * P.bytesOf e := Nat.mul_le_mul (by omega) hB
      unfold reachBytes at h1
      omega
    have hone : ∀ i, i < len → ∃ ca : List Value × α, ca.1.length = m ∧ p ca.1 ca.2 ∧ w.cells? base (a.add (i * m)) m = some ca.1 := by
      intro i hi
      have h1 := hel i hi
      rw [List.getElem?_eq_getElem (by omega), hC] at h1
      obtain ⟨cs', hc, ht'⟩ := Option.bind_eq_some_iff.1 h1
      obtain ⟨_, hcl, _⟩ := World.cells?_some hc
      obtain ⟨a', ha'⟩ := hp cs' _ ht' (hw2.2 _ (List.getElem_mem _)) hcl
      exact ⟨⟨cs', a'⟩, hcl, ha', hc⟩
    obtain ⟨L, hL, hF⟩ := list_of len hone
    refine ⟨some a, cap, L.map (·.1), L.map (·.2), by simp [hL], by simp, by simpa [hL] using hlr, ?_, ?_⟩
    · have hfl : (L.map (·.1)).flatten.length = len * m := by
        have hg : ∀ L' : List (List Value × α), (∀ ca ∈ L', ca.1.length = m) → (L'.map (·.1)).flatten.length = L'.length * m := by
          intro L'
          induction L' with
          | nil => intro _; simp
          | cons z L' ih =>
            intro h
            simp only [List.map_cons, List.flatten_cons, List.length_append, ih (fun ca hca => h ca (List.mem_cons_of_mem _ hca)), h z (by simp), List.length_cons, Nat.add_mul]
            omega
        rw [hg L (fun ca hca => by
          obtain ⟨j, hj⟩ := List.getElem?_of_mem hca
          exact (hF j ca hj).1), hL]
      refine ⟨by simpa [hL] using hfl, ?_⟩
      rw [List.length_map, hL]
      by_cases h0 : len = 0
      · subst h0
        exact .inl ⟨rfl, some a, cap, rfl⟩
      · obtain ⟨b, off, spot⟩ := a
        obtain ⟨ca0, hca0⟩ : ∃ ca, L[0]? = some ca := ⟨_, List.getElem?_eq_getElem (by omega)⟩
        obtain ⟨k0, _, kc⟩ := hF 0 ca0 hca0
        obtain ⟨_, kl, kat⟩ := World.cells?_some kc
        have hcell0 := kat 0 hm
        rw [List.getElem?_eq_getElem (by omega)] at hcell0
        have hsp : spot = none := by simpa [Addr.add] using World.cell?_spot hcell0
        subst hsp
        have hlt : b < w.heap.size := World.block_lt_of_cell? w _ (by simpa [Addr.add] using hcell0)
        refine .inr ⟨b, off, cap, rfl, hl, hlt, hlt, fun i hi => ?_⟩
        have hdiv : i / m < len := (Nat.div_lt_iff_lt_mul hm).2 hi
        have hmod : i % m < m := Nat.mod_lt _ hm
        have hdm : i / m * m + i % m = i := by rw [Nat.mul_comm]; exact Nat.div_add_mod i m
        obtain ⟨ca, hca⟩ : ∃ ca, L[i / m]? = some ca := ⟨_, List.getElem?_eq_getElem (by omega)⟩
        obtain ⟨j0, _, jc⟩ := hF _ ca hca
        obtain ⟨_, jl, jat⟩ := World.cells?_some jc
        have hcell := jat (i % m) hmod
        have hget : (L.map (·.1)).flatten[i]? = ca.1[i % m]? := by
          have hg : ∀ (L' : List (List Value × α)) (q r : Nat) ca, (∀ ca ∈ L', ca.1.length = m) → r < m → L'[q]? = some ca → (L'.map (·.1)).flatten[q * m + r]? = ca.1[r]? := by
            intro L'
            induction L' with
            | nil => intro q r ca _ _ h; simp at h
            | cons z L' ih =>
              intro q r ca hall hr hq
              have hz := hall z (by simp)
              cases q with
              | zero =>
                simp at hq
                subst hq
                simp only [List.map_cons, List.flatten_cons, Nat.zero_mul, Nat.zero_add]
                rw [List.getElem?_append_left (by omega)]
              | succ q =>
                simp only [List.map_cons, List.flatten_cons]
                rw [List.getElem?_append_right (by rw [Nat.add_mul]; omega), show (q + 1) * m + r - z.1.length = q * m + r by rw [Nat.add_mul]; omega]
                exact ih q r ca (fun ca h => hall ca (List.mem_cons_of_mem _ h)) hr (by simpa using hq)
          have := hg L (i / m) (i % m) ca (fun ca hca => by
            obtain ⟨j, hj⟩ := List.getElem?_of_mem hca
            exact (hF j ca hj).1) hmod hca
          rw [hdm] at this
          exact this
        rw [hget, ← hcell]
        congr 1
        rw [Addr.add_lit, Addr.add_lit, Nat.add_assoc, hdm]
    · intro i c' a' hc ha
      rw [List.getElem?_map] at hc ha
      obtain ⟨ca, hca, rfl⟩ := Option.map_eq_some_iff.1 hc
      rw [hca] at ha
      simp at ha
      subst ha
      obtain ⟨h1, h2, _⟩ := hF i ca hca
      exact ⟨h1, h2⟩
theorem each_weights {P : Program} {b : Nat} : ∀ (ts : List TypeId) (ds : List (DataW H)), (DataW.weightsEach P ts ds).all (· ≤ b) = true → ∀ (i : Nat) t d, ts[i]? = some t → ds[i]? = some d → (d.weights P t).all (· ≤ b) = true
  | [], ds, _, i, t, d, h, _ => by simp at h
  | t0 :: ts, [], _, i, t, d, _, h => by simp at h
  | t0 :: ts, d0 :: ds, hw, i, t, d, h1, h2 => by
    simp only [DataW.weightsEach, List.all_append, Bool.and_eq_true] at hw
    cases i with
    | zero => simp at h1 h2; subst h1; subst h2; exact hw.1
    | succ i => exact each_weights ts ds hw.2 i t d (by simpa using h1) (by simpa using h2)
/-- A struct's fields, each a cell. -/
theorem open_cells {P : Program} {t : TypeId} {fs : Array Field} {n : Nat} {cs : List Value} {x : DataW H × List MemPlace} (ht : P.underlying t = some (.struct fs)) (hone : ∀ (i : Nat) (f : Field), fs[i]? = some f → f.offset = i ∧ P.cellsOf f.type = 1)
    (h : DataW.trod enc P w base spare held (n + 1) t cs = some x) (hw : (x.1.weights P t).all (· ≤ reachBytes) = true) :
    cs.length = P.cellsOf t ∧ ∀ (i : Nat) (f : Field) v, fs[i]? = some f → cs[i]? = some v → ∃ y, DataW.trod enc P w base spare held n f.type [v] = some y ∧ (y.1.weights P f.type).all (· ≤ reachBytes) = true := by
  obtain ⟨xs, m, hm, rfl, hl, hxl, hf⟩ := DataW.trod_struct ht h
  obtain rfl : n = m := by omega
  refine ⟨hl, fun i f v hi hv => ?_⟩
  have h1 := hf i f hi
  have h2 := hone i f hi
  have hil := (List.getElem?_eq_some_iff.1 hv)
  have hfl := (Array.getElem?_eq_some_iff.1 hi).1
  rw [h2.1, h2.2, List.drop_eq_getElem_cons hil.1] at h1
  simp only [List.take_succ_cons, List.take_zero] at h1
  rw [hil.2, List.getElem?_eq_getElem (by omega)] at h1
  refine ⟨_, h1, ?_⟩
  unfold DataW.weights at hw
  rw [ht] at hw
  exact each_weights _ _ hw i f.type _ (by simp; exact ⟨f, by simpa using hi, rfl⟩) (by rw [List.getElem?_map, List.getElem?_eq_getElem (by omega)]; rfl)
theorem str_weight {P : Program} {t : TypeId} {n : Nat} {v : Value} {y : DataW H × List MemPlace} (ht : P.underlying t = some .string) (h : DataW.trod enc P w base spare held n t [v] = some y) (hw : (y.1.weights P t).all (· ≤ reachBytes) = true) : ∃ s : ByteArray, v = .string s ∧ s.size ≤ 140737488355328 := by
  obtain ⟨s, hs, rfl, _⟩ := DataW.trod_string ht h
  simp at hs
  refine ⟨s, hs, ?_⟩
  simp only [DataW.weights, List.all_cons, List.all_nil, Bool.and_true, decide_eq_true_eq] at hw
  rw [← Lib.size_eq] at hw
  unfold reachBytes at hw
  omega
def tyOff (P : Program) (t : TypeId) : Option (List (TypeId × Nat)) := match P.underlying t with
  | some (.struct fs) => some (fs.toList.map fun f => (f.type, f.offset))
  | _ => none
theorem fields_of {P : Program} {t : TypeId} {L : List (TypeId × Nat)} (h : tyOff P t = some L) : ∃ fs : Array Field, P.underlying t = some (.struct fs) ∧ ∀ (i : Nat) x, L[i]? = some x → ∃ f, fs[i]? = some f ∧ f.type = x.1 := by
  unfold tyOff at h
  split at h
  · rename_i fs he
    simp only [Option.some.injEq] at h
    subst h
    refine ⟨fs, he, fun i x hi => ?_⟩
    rw [List.getElem?_map] at hi
    obtain ⟨f, hf, rfl⟩ := Option.map_eq_some_iff.1 hi
    exact ⟨f, by simpa using hf, rfl⟩
  · cases h
theorem ones33 : ∀ fs, Tryd.prog.underlying 33 = some (.struct fs) → oneCellFields Tryd.prog fs = true := by
  have : (match Tryd.prog.underlying 33 with | some (.struct fs) => oneCellFields Tryd.prog fs | _ => false) = true := by kernel_rfl
  intro fs h
  rw [h] at this
  exact this
theorem ones107 : ∀ fs, Tryd.prog.underlying 107 = some (.struct fs) → oneCellFields Tryd.prog fs = true := by
  have : (match Tryd.prog.underlying 107 with | some (.struct fs) => oneCellFields Tryd.prog fs | _ => false) = true := by kernel_rfl
  intro fs h
  rw [h] at this
  exact this
theorem len1 : ∀ {cs : List Value}, cs.length = 1 → ∃ a, cs = [a]
  | [a], _ => ⟨a, rfl⟩
theorem len2 : ∀ {cs : List Value}, cs.length = 2 → ∃ a b, cs = [a, b]
  | [a, b], _ => ⟨a, b, rfl⟩
theorem len7 : ∀ {cs : List Value}, cs.length = 7 → ∃ a b c d e f g, cs = [a, b, c, d, e, f, g]
  | [a, b, c, d, e, f, g], _ => ⟨a, b, c, d, e, f, g, rfl⟩
def ExtIs (cs : List Value) (x : IExt) : Prop := cs = iC x ∧ x.2.size ≤ 140737488355328
theorem ext_of {n : Nat} {cs : List Value} {x : DataW H × List MemPlace} (h : DataW.trod enc Tryd.prog w base spare held n 107 cs = some x) (hw : (x.1.weights Tryd.prog 107).all (· ≤ reachBytes) = true) (hl : cs.length = 2) : ∃ e, ExtIs cs e := by
  obtain ⟨fs, hu, hf⟩ := fields_of (P := Tryd.prog) (t := 107) (L := [(3, 0), (9, 1)]) (by kernel_rfl)
  cases n with
  | zero => simp [DataW.trod] at h
  | succ n =>
    obtain ⟨_, hc⟩ := open_cells hu (hone_of (ones107 fs hu)) h hw
    obtain ⟨a, b, rfl⟩ := len2 hl
    · obtain ⟨f0, g0, t0⟩ := hf 0 _ rfl
      obtain ⟨f1, g1, t1⟩ := hf 1 _ rfl
      obtain ⟨y0, r0, w0⟩ := hc 0 f0 a g0 rfl
      obtain ⟨y1, r1, w1⟩ := hc 1 f1 b g1 rfl
      rw [t0] at r0
      rw [t1] at r1 w1
      obtain ⟨i, hi, _, _⟩ := DataW.trod_int Tryd.underlying3 r0
      obtain ⟨s, hs, hz⟩ := str_weight Tryd.underlying9 r1 w1
      simp at hi
      subst hi; subst hs
      exact ⟨(i, s), rfl, hz⟩
def NodeIs (w : World) (cs : List Value) (x : NV × T) : Prop := cs = pairC x ∧ Rep (Lt w) w x.1 x.2 ∧ Sz x.2
def StrIs (cs : List Value) (s : ByteArray) : Prop := cs = [.string s] ∧ s.size ≤ 140737488355328
theorem flat_of {α : Type} {f : α → List Value} : ∀ (css : List (List Value)) (l : List α), css.length = l.length → (∀ (i : Nat) c a, css[i]? = some c → l[i]? = some a → c = f a) → css.flatten = l.flatMap f
  | [], [], _, _ => rfl
  | [], _ :: _, h, _ => by simp at h
  | _ :: _, [], h, _ => by simp at h
  | c :: css, a :: l, h, hp => by
    have h0 := hp 0 c a rfl rfl
    have ih := flat_of css l (by simpa using h) (fun i c' a' h1 h2 => hp (i + 1) c' a' (by simpa using h1) (by simpa using h2))
    simp [h0, ih]
theorem flat_str : ∀ ns : List ByteArray, ns.flatMap (fun s => [Value.string s]) = ns.map Value.string
  | [] => rfl
  | s :: ns => by rw [List.flatMap_cons, flat_str ns]; rfl
theorem nodesL {v : Value} {css : List (List Value)} {l : List (NV × T)} (hcl : css.length = l.length) (hs : Sl (Lt w) w 7 v l.length css.flatten) (hp : ∀ (i : Nat) c' a, css[i]? = some c' → l[i]? = some a → c'.length = 7 ∧ NodeIs w c' a) :
    RepL (Lt w) w v (l.map (·.2)) ∧ ∀ u ∈ l.map (·.2), Sz u := by
  have hz : (l.map (·.1)).zip (l.map (·.2)) = l := by
    clear hcl hs hp
    induction l with
    | nil => rfl
    | cons x l ih => simp [ih]
  have hget : ∀ (i : Nat) x, l[i]? = some x → NodeIs w (css[i]?.getD []) x := fun i x hx => by
    have hi := (List.getElem?_eq_some_iff.1 hx).1
    obtain ⟨c, hc⟩ : ∃ c, css[i]? = some c := ⟨_, List.getElem?_eq_getElem (by omega)⟩
    rw [hc]
    exact (hp i c x hc hx).2
  refine ⟨⟨l.map (·.1), by simp, ?_, fun i q u h1 h2 => ?_⟩, fun u hu => ?_⟩
  · rw [hz, List.length_map, ← flat_of css l hcl (fun i c a h1 h2 => (hp i c a h1 h2).2.1)]
    exact hs
  · rw [List.getElem?_map] at h1 h2
    obtain ⟨x, hx, rfl⟩ := Option.map_eq_some_iff.1 h1
    rw [hx] at h2
    simp at h2
    subst h2
    exact (hget i x hx).2.1
  · obtain ⟨x, hx, rfl⟩ := List.mem_map.1 hu
    obtain ⟨i, hi⟩ := List.getElem?_of_mem hx
    exact (hget i x hi).2.2
theorem node_of : ∀ (n : Nat) {cs : List Value} {x : DataW H × List MemPlace}, DataW.trod enc Tryd.prog w base spare held n 33 cs = some x → (x.1.weights Tryd.prog 33).all (· ≤ reachBytes) = true → cs.length = 7 → ∃ a, NodeIs w cs a := by
  intro n
  induction n using Nat.strongRecOn with
  | ind n ih =>
    intro cs x h hw hl
    obtain ⟨fs, hu, hf⟩ := fields_of (P := Tryd.prog) (t := 33) (L := [(3, 0), (4, 1), (23, 2), (22, 3), (3, 4), (31, 5), (9, 6)]) (by kernel_rfl)
    cases n with
    | zero => simp [DataW.trod] at h
    | succ n =>
      obtain ⟨_, hc⟩ := open_cells hu (hone_of (ones33 fs hu)) h hw
      obtain ⟨a0, a1, a2, a3, a4, a5, a6, rfl⟩ := len7 hl
      · obtain ⟨f0, g0, t0⟩ := hf 0 _ rfl
        obtain ⟨f1, g1, t1⟩ := hf 1 _ rfl
        obtain ⟨f2, g2, t2⟩ := hf 2 _ rfl
        obtain ⟨f3, g3, t3⟩ := hf 3 _ rfl
        obtain ⟨f4, g4, t4⟩ := hf 4 _ rfl
        obtain ⟨f5, g5, t5⟩ := hf 5 _ rfl
        obtain ⟨f6, g6, t6⟩ := hf 6 _ rfl
        obtain ⟨y0, r0, w0⟩ := hc 0 f0 a0 g0 rfl
        obtain ⟨y1, r1, w1⟩ := hc 1 f1 a1 g1 rfl
        obtain ⟨y2, r2, w2⟩ := hc 2 f2 a2 g2 rfl
        obtain ⟨y3, r3, w3⟩ := hc 3 f3 a3 g3 rfl
        obtain ⟨y4, r4, w4⟩ := hc 4 f4 a4 g4 rfl
        obtain ⟨y5, r5, w5⟩ := hc 5 f5 a5 g5 rfl
        obtain ⟨y6, r6, w6⟩ := hc 6 f6 a6 g6 rfl
        rw [t0] at r0
        rw [t1] at r1
        rw [t2] at r2 w2
        rw [t3] at r3 w3
        rw [t4] at r4
        rw [t5] at r5 w5
        rw [t6] at r6 w6
        cases n with
        | zero => simp [DataW.trod] at r0
        | succ n =>
          obtain ⟨k, hk, _, _⟩ := DataW.trod_int Tryd.underlying3 r0
          obtain ⟨o, ho, _⟩ := DataW.trod_bool Tryd.underlying4 r1
          obtain ⟨z, hz, _, _⟩ := DataW.trod_int Tryd.underlying3 r4
          obtain ⟨tg, htg, htz⟩ := str_weight Tryd.underlying9 r6 w6
          obtain ⟨An, cn, cn', ns, hn, hnl, hnb, hns, hnp⟩ := open_elems (m := 1) (p := StrIs) Tryd.underlying23 (by kernel_rfl) (by decide) (of_decide_eq_true (by kernel_rfl)) r2 w2 (fun cs' y hy hyw hyl => by
            obtain ⟨v, rfl⟩ := len1 hyl
            · obtain ⟨s, hs, hz⟩ := str_weight Tryd.underlying9 hy hyw
              subst hs
              exact ⟨s, rfl, hz⟩)
          obtain ⟨Ae, ce, ce', es, he, hel, heb, hes, hep⟩ := open_elems (m := 2) (p := ExtIs) Tryd.underlying31 (by kernel_rfl) (by decide) (of_decide_eq_true (by kernel_rfl)) r5 w5 (fun cs' y hy hyw hyl => ext_of hy hyw hyl)
          obtain ⟨Ai, ci, ci', il, hi, hil, hib, his, hip⟩ := open_elems (m := 7) (p := NodeIs w) Tryd.underlying22 (by kernel_rfl) (by decide) (of_decide_eq_true (by kernel_rfl)) r3 w3 (fun cs' y hy hyw hyl => ih n (by omega) hy hyw hyl)
          simp at hk ho hz hn he hi
          subst hk; subst ho; subst hz; subst htg; subst hn; subst he; subst hi
          have hN := nodesL hil his hip
          have eN : cn'.flatten = ns.map Value.string := by
            rw [flat_of (f := fun s => [Value.string s]) cn' ns hnl (fun i c a h1 h2 => (hnp i c a h1 h2).2.1)]
            exact flat_str ns
          have eE : ce'.flatten = iCells es := flat_of (f := iC) ce' es hel (fun i c a h1 h2 => (hep i c a h1 h2).2.1)
          refine ⟨(⟨.slice An ns.length cn, .slice Ai il.length ci, .slice Ae es.length ce⟩, .node k o ns (il.map (fun x : NV × T => x.2)) z es tg), rfl, Rep.of ?_ ?_ ?_, .mk _ hnb (by simpa [T.items] using hib) heb (fun s hs => ?_) (fun e he => ?_) htz (fun u hu => hN.2 u hu)⟩
          · rw [eN] at hns; exact hns
          · rw [eE] at hes; exact hes
          · exact hN.1
          · obtain ⟨i, hi⟩ := List.getElem?_of_mem hs
            have hil := (List.getElem?_eq_some_iff.1 hi).1
            simp only [T.names] at hil
            exact (hnp i _ s (List.getElem?_eq_getElem (by omega)) hi).2.2
          · obtain ⟨i, hi⟩ := List.getElem?_of_mem he
            have hil := (List.getElem?_eq_some_iff.1 hi).1
            simp only [T.exts] at hil
            exact (hep i _ e (List.getElem?_eq_getElem (by omega)) hi).2.2
/-- A slice of trees that came in. -/
theorem nodes_of {v : Value} {d : DataW H} {p : List MemPlace} (h : DataW.Trod enc Tryd.prog w base spare held 22 v d p) (hw : (d.weights Tryd.prog 22).all (· ≤ reachBytes) = true) (hv : ∃ A l c, v = .slice A l c) :
    ∃ (A : Option Addr) (c : Nat) (l : List T), v = .slice A l.length c ∧ RepL (Lt w) w v l ∧ ∀ u ∈ l, Sz u := by
  obtain ⟨A, ln, c, rfl⟩ := hv
  obtain ⟨n, hn⟩ := h
  cases n with
  | zero => simp [DataW.trod] at hn
  | succ n =>
    obtain ⟨Ai, ci, ci', il, hi, hil, hib, his, hip⟩ := open_elems (m := 7) (p := NodeIs w) Tryd.underlying22 (by kernel_rfl) (by decide) (of_decide_eq_true (by kernel_rfl)) hn hw (fun cs' y hy hyw hyl => node_of n hy hyw hyl)
    simp [Value.cells] at hi
    obtain ⟨rfl, rfl, rfl⟩ := hi
    have hN := nodesL hil his hip
    exact ⟨A, c, il.map (·.2), by simp, hN.1, hN.2⟩
/-- A tree that came in. -/
theorem tree_of {v : Value} {d : DataW H} {p : List MemPlace} (h : DataW.Trod enc Tryd.prog w base spare held 33 v d p) (hw : (d.weights Tryd.prog 33).all (· ≤ reachBytes) = true) {V : Array Value} (hv : v = .agg V) (hl : V.size = 7) :
    ∃ (q : NV) (t : T), v = nodeV q t ∧ Rep (Lt w) w q t ∧ Sz t := by
  subst hv
  obtain ⟨n, hn⟩ := h
  obtain ⟨x, h1, h2, h3⟩ := node_of n hn hw (by simpa [Value.cells] using hl)
  refine ⟨x.1, x.2, ?_, h2, h3⟩
  have : V = (pairC x).toArray := by
    have h4 : V.toList = pairC x := by simpa [Value.cells] using h1
    rw [← h4]
  rw [this]
  rfl
end
end Go.Proofs.YtkmojgdjapfbbaaDoor
