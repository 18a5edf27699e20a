/- A queue (a row that is cut at its front), a set or nil: words of my own for WholeGate. -/
import Derived.Test.YtjehcdedljckbaaCur
import Derived.Laws.AppendOwn
namespace Go.Proofs.Ytjehcdedljckbaa
open Go.RowKit Go.Maps
set_option linter.unusedSimpArgs false
set_option linter.unusedVariables false

/-- A slice of elements of one cell that begins anywhere in a row of the call's own. -/
def QRow (w : World) (base : Nat) (e : TypeId) (v : Value) (xs : List Value) : Prop :=
  (v = .slice none 0 0 ∧ xs = []) ∨ ∃ g off cap cur, v = .slice (some ⟨g, off, none⟩) xs.length cap ∧ base ≤ g ∧ w.heap[g]? = some (.cells cur e (0, 0)) ∧ xs.length ≤ cap ∧ cap ≤ maxLen ∧ off + cap ≤ cur.size ∧ (cur.toList.drop off).take xs.length = xs

section
variable {P : Program} {w w' : World} {base : Nat} {e : TypeId} {v : Value} {xs : List Value}
theorem QRow.own (h : QRow w base e v xs) : ∀ k, v.ownBlock = some k → base ≤ k ∧ k < w.heap.size := by
  intro k hk
  rcases h with ⟨rfl, _⟩ | ⟨g, off, cap, cur, rfl, hb, hg, _⟩
  · cases hk
  · have e : g = k := by simpa [Value.ownBlock] using hk
    subst e
    refine ⟨hb, ?_⟩
    rcases Nat.lt_or_ge g w.heap.size with h | h
    · exact h
    · rw [Array.getElem?_eq_none h] at hg; cases hg
theorem QRow.keep {S : Nat → Prop} (h : QRow w base e v xs) (hk : Keep S w w') (hS : ∀ k, v.ownBlock = some k → ¬ S k) : QRow w' base e v xs := by
  have hlt := h.own
  rcases h with ⟨rfl, h⟩ | ⟨g, off, cap, cur, rfl, hb, hg, hr⟩
  · exact .inl ⟨rfl, h⟩
  · exact .inr ⟨g, off, cap, cur, rfl, hb, (hk.block g (hlt g rfl).2 (hS g rfl)).trans hg, hr⟩
theorem QRow.ne_blk (h : QRow w base e v xs) {g : Nat} {t : TypeId} {cs : Array Value} (hb : Blk w g t cs) (hne : e ≠ t) : ∀ k, v.ownBlock = some k → k ≠ g := by
  rintro k hk rfl
  rcases h with ⟨rfl, _⟩ | ⟨g', off, cap, cur, rfl, _, hg, _⟩
  · cases hk
  · have e' : g' = k := by simpa [Value.ownBlock] using hk
    subst e'
    unfold Blk at hb
    rw [hg] at hb
    injection hb with hb
    injection hb with _ ht
    exact hne ht
theorem QRow.ne_map {α : Type} {k : TypeId} {R : Value → Option (DataW α × List MemPlace)} {b n : Nat} {D : DataW α} (h : QRow w base e v xs) (hm : w.ownsMap P k R b n D) : ∀ j, v.ownBlock = some j → j ≠ b := by
  rintro j hj rfl
  obtain ⟨es, clock, hb, _⟩ := hm
  rcases h with ⟨rfl, _⟩ | ⟨g', off, cap, cur, rfl, _, hg, _⟩
  · cases hj
  · have e' : g' = j := by simpa [Value.ownBlock] using hj
    subst e'
    rw [hb] at hg
    cases hg
theorem QRow.shape (h : QRow w base e v xs) : ∃ a c, v = .slice a xs.length c ∧ xs.length ≤ c := by
  rcases h with ⟨rfl, rfl⟩ | ⟨g, off, cap, cur, rfl, _, _, hc, _⟩
  · exact ⟨none, 0, rfl, Nat.le_refl _⟩
  · exact ⟨_, cap, rfl, hc⟩
/-- Where its elements lie. -/
theorem QRow.at (h : QRow w base e v xs) (hne : 0 < xs.length) : ∃ g off cap, v = .slice (some ⟨g, off, none⟩) xs.length cap ∧ base ≤ g ∧ g < w.heap.size ∧ xs.length ≤ cap ∧ ∀ i, i < xs.length → w.cell? ⟨g, off + i, none⟩ = xs[i]? := by
  have hlt := h.own
  rcases h with ⟨rfl, rfl⟩ | ⟨g, off, cap, cur, rfl, hb, hg, hc, hm, hs, hx⟩
  · simp at hne
  · refine ⟨g, off, cap, rfl, hb, (hlt g rfl).2, hc, fun i hi => ?_⟩
    rw [cell_of_row w g _ cur e (0, 0) hg]
    have h1 : ((cur.toList.drop off).take xs.length)[i]? = xs[i]? := by rw [hx]
    rw [List.getElem?_take_of_lt hi, List.getElem?_drop] at h1
    simpa using h1
/-- Cut at the front. -/
theorem QRow.tail {x : Value} (h : QRow w base e v (x :: xs)) : ∃ a n c, v = .slice a n c ∧ n = xs.length + 1 ∧ QRow w base e (sliced a 1 n c 1) xs ∧ (∀ k, (sliced a 1 n c 1).ownBlock = some k → v.ownBlock = some k) := by
  rcases h with ⟨rfl, h⟩ | ⟨g, off, cap, cur, rfl, hb, hg, hc, hm, hs, hx⟩
  · cases h
  · simp only [List.length_cons] at hc hx
    refine ⟨some ⟨g, off, none⟩, xs.length + 1, cap, rfl, rfl, ?_, ?_⟩
    · by_cases e1 : cap = 1
      · have : xs = [] := List.eq_nil_of_length_eq_zero (by omega)
        subst this
        refine .inr ⟨g, off, 0, cur, by simp [sliced, e1], hb, hg, by simp, by unfold maxLen; omega, by omega, by simp⟩
      · refine .inr ⟨g, off + 1, cap - 1, cur, by simp [sliced, e1, Addr.add_lit], hb, hg, by omega, by omega, by omega, ?_⟩
        have h1 : ((cur.toList.drop off).take (xs.length + 1)).drop 1 = xs := by rw [hx]; rfl
        rw [List.drop_take, List.drop_drop] at h1
        simpa using h1
    · intro k hk
      simp only [sliced] at hk
      split at hk
      · exact hk
      · simpa [Value.ownBlock, Addr.add_lit] using hk
theorem grown_keep {S : Nat → Prop} {row : Option Nat} (hg : w.grownBy w' row) (hr : ∀ k, row = some k → S k) : Keep S w w' := (Keep.refl S w).grown hg (fun k e _ => hr k e)
/-- One more at the end. -/
theorem run_append_q (t ty : TypeId) (i : TypeInfo) (z : Value) (bytes : Nat) (ht : P.underlying t = some (.slice e)) (hi : P.info? e = some i) (hz : i.zero = some z) (hsize : i.size = 1) (hby : i.bytes = bytes) (hzs : z.cells.size = 1)
    (h : QRow w base e v xs) (a : Addr) (c : Nat) (x : Value) (hx : w.cell? a = some x) (h1 : x.oneCell' = true) (hl : xs.length < 1000000) (hb8 : bytes ≤ 8) (hbase : base ≤ w.heap.size) :
    ∃ v' w', (Builtin.append_ #[t, t] ty #[v, .slice (some a) 1 c]).run P w = .ok v' w' ∧ QRow w' base e v' (xs ++ [x]) ∧ w.grownBy w' v.ownBlock ∧ (∀ k, v'.ownBlock = some k → v.ownBlock = some k ∨ w.heap.size ≤ k) := by
  have hnews : ∀ (j : Nat) u, [x][j]? = some u → w.cell? (a.add j) = some u := by
    intro j u hj
    match j with
    | 0 => simpa [Addr.add] using (by simpa using hj ▸ hx : w.cell? a = some u)
    | j + 1 => simp at hj
  have grown : ∀ (old : Nat), old < xs.length + 1 → ∀ (row : Option Nat),
      QRow (w.drew.alloc (.cells (xs.toArray ++ [x].toArray ++ Builtin.zeroCells z.cells (grownCap w (xs.length + 1) old e - (xs.length + 1))) e)) base e
        (.slice (some ⟨w.heap.size, 0, none⟩) (xs.length + 1) (grownCap w (xs.length + 1) old e)) (xs ++ [x]) ∧
      w.grownBy (w.drew.alloc (.cells (xs.toArray ++ [x].toArray ++ Builtin.zeroCells z.cells (grownCap w (xs.length + 1) old e - (xs.length + 1))) e)) row := by
    intro old ho row
    have hge := grownCap_ge w (xs.length + 1) old e
    have hcm : grownCap w (xs.length + 1) old e ≤ maxLen := grownCap_le_maxLen w (xs.length + 1) old e (by unfold maxLen; omega)
    refine ⟨.inr ⟨w.heap.size, 0, _, _, by simp, hbase, heap_alloc_new w.drew _, by simpa using hge, hcm, ?_, ?_⟩, ⟨rfl, rfl, rfl, by simp, fun k hk _ => Below.heap_alloc w.drew _ k hk⟩⟩
    · simp only [Array.size_append, List.size_toArray, size_zeroCells, hzs, List.length_cons, List.length_nil]
      omega
    · have h2 : (xs ++ [x] ++ (Builtin.zeroCells z.cells (grownCap w (xs.length + 1) old e - (xs.length + 1))).toList).take (xs ++ [x]).length = xs ++ [x] := List.take_left
      simpa using h2
  rcases h with ⟨rfl, rfl⟩ | ⟨g, off, cap, cur, rfl, hbg, hg, hnc, hcm, hcs, htake⟩
  · have hr := run_append_nil (P := P) w t ty e i z ht hi hz a 1 c [x] (by simp [hsize]) hnews (by omega) (by omega) (by omega)
    have hgr := grown 0 (by simp) (Value.ownBlock (.slice none 0 0))
    simp only [List.length_nil, Nat.zero_add, List.nil_append, Array.empty_append] at hgr
    refine ⟨_, _, hr, by simpa using hgr.1, by simpa using hgr.2, ?_⟩
    intro k hk
    exact .inr (by have : w.heap.size = k := by simpa [Value.ownBlock] using hk
                   omega)
  · by_cases hroom : xs.length + 1 ≤ cap
    · have hf := run_firstCells_some (P := P) w i.size 1 a 1 c [x] (by simp [hsize]) hnews
      have hst := run_storeCells_at P g (off + xs.length) e [x] 0 cur w hg (by simp; omega) (by simpa using h1)
      simp only [Nat.add_zero] at hst
      have hr : (Builtin.append_ #[t, t] ty #[.slice (some ⟨g, off, none⟩) xs.length cap, .slice (some a) 1 c]).run P w = .ok (.slice (some ⟨g, off, none⟩) (xs.length + 1) cap) (w.setRow g (cur.toList.take (off + xs.length) ++ [x] ++ cur.toList.drop (off + xs.length + [x].length)).toArray) := by
        rw [hsize] at hf
        simp [Builtin.append_, run_underlying ht, sizeOf, typeInfo, hi, hsize, Builtin.lenOf, hroom, hf, Addr.add_lit]
        rw [hst]
        simp
      refine ⟨_, _, hr, .inr ⟨g, off, cap, _, by simp, hbg, setRow_heap w g cur _ e _ hg, by simpa using hroom, hcm, ?_, ?_⟩, ⟨rfl, rfl, rfl, by simp, fun k _ hk => setRow_other w g k _ (fun e => hk (by simp [Value.ownBlock, e]))⟩, fun k hk => .inl hk⟩
      · simp only [List.size_toArray, List.length_append, List.length_take, List.length_drop, Array.length_toList, List.length_cons, List.length_nil]
        omega
      · have hlen : cur.toList.length = cur.size := Array.length_toList
        simp only [List.append_assoc]
        rw [List.drop_append_of_le_length (by rw [List.length_take]; omega), List.drop_take]
        rw [show off + xs.length - off = xs.length by omega, htake]
        have h2 : (xs ++ [x] ++ cur.toList.drop (off + xs.length + [x].length)).take (xs ++ [x]).length = xs ++ [x] := List.take_left
        simpa using h2
    · have holds : ∀ j u, xs[j]? = some u → w.cell? ((⟨g, off, none⟩ : Addr).add j) = some u := by
        intro j u hj
        have hjl : j < xs.length := (List.getElem?_eq_some_iff.1 hj).1
        rw [Addr.add_lit, cell_of_row w g _ cur e (0, 0) hg]
        have h1 : ((cur.toList.drop off).take xs.length)[j]? = xs[j]? := by rw [htake]
        rw [List.getElem?_take_of_lt hjl, List.getElem?_drop] at h1
        rw [hj] at h1
        simpa using h1
      have hr := run_append_grow (P := P) w t ty e i z ht hi hz ⟨g, off, none⟩ xs.length cap xs (by simp [hsize]) holds a 1 c [x] (by simp [hsize]) hnews (by omega) (by omega) (growslice_fits (by omega) (Nat.le_trans (Nat.mul_le_mul (show xs.length + 1 ≤ 1000000 from hl) (show i.bytes ≤ 8 by omega)) (by omega)))
      have hgr := grown cap (by omega) (Value.ownBlock (.slice (some ⟨g, off, none⟩) xs.length cap))
      refine ⟨_, _, hr, hgr.1, hgr.2, ?_⟩
      intro k hk
      exact .inr (by have : w.heap.size = k := by simpa [Value.ownBlock] using hk
                     omega)
theorem wpList_append_q {ops : Array Oper} {rest : List Oper} {o : Oper} {a : Act} {Q : Exit → Act → World → Prop} (hgd : o.guard = none) (s x : Operand) (t : TypeId)
    (ho : o.op = .call { callee := .builtin .append, args := #[s, x], argTypes := #[t, t] })
    (base : Nat) (e : TypeId) (i : TypeInfo) (z : Value) (bytes : Nat) (ht : P.underlying t = some (.slice e)) (hi : P.info? e = some i) (hz : i.zero = some z) (hsize : i.size = 1) (hby : i.bytes = bytes) (hzs : z.cells.size = 1)
    (v : Value) (xs : List Value) (hs : a.eval s = v) (hown : QRow w base e v xs)
    (ad : Addr) (c : Nat) (u : Value) (hx : a.eval x = .slice (some ad) 1 c) (hnews : w.cell? ad = some u) (h1 : u.oneCell' = true)
    (hl : xs.length < 1000000) (hb8 : bytes ≤ 8) (hbase : base ≤ w.heap.size)
    (h : ∀ v' w', QRow w' base e v' (xs ++ [u]) → w.grownBy w' v.ownBlock → (∀ k, v'.ownBlock = some k → v.ownBlock = some k ∨ w.heap.size ≤ k) → wpList P ops Q rest (a.put o.dst v') w') : wpList P ops Q (o :: rest) a w := by
  refine wpList_plain hgd fun K hK => ?_
  obtain ⟨v', w', hr, h2, h3, h4⟩ := run_append_q (P := P) t o.type i z bytes ht hi hz hsize hby hzs hown ad c u hnews h1 hl hb8 hbase
  unfold Oper.wp execOp
  simp only [ho, resolve, invoke, builtin, Sem.run_bind, Sem.run_pure, Result.andThen_ok, List.map_toArray, List.map_cons, List.map_nil, hs, hx, hr]
  exact hK _ _ (h v' w' h2 h3 h4)
end

/-! ### A set, or nil. -/
@[reducible] def encU (_ : Unit) : Value := .agg #[]
def decU (v : Value) : Option Unit := match v with
  | .agg cs => match cs.toList with
    | [] => some ()
    | _ => none
  | _ => none
theorem decU_inv (v : Value) (x : Unit) (h : decU v = some x) : v = encU x := by
  unfold decU at h
  split at h
  · rename_i cs
    split at h
    · rename_i hl
      unfold encU
      congr 1
      exact Array.toList_inj.1 hl
    · cases h
  · cases h
theorem hasU_nil (k : Lit) : Maps.has (.map [] : DataW Unit) k = false := rfl
theorem zero48 (w : World) : (zeroValue 48).run Try.prog w = .ok (encU ()) w := by kernel_rfl

def RM (w : World) (base : Nat) (rv : Value) (D : DataW Unit) : Prop :=
  (rv = .map none ∧ D = .map []) ∨ ∃ b, rv = .map (some b) ∧ base ≤ b ∧ w.ownsMap Try.prog 3 (rdr decU) b (Maps.size D) D
section
variable {w w' : World} {base : Nat} {rv : Value} {D : DataW Unit} {S : Nat → Prop}
theorem RM.keep (h : RM w base rv D) (hk : Keep S w w') (hS : ∀ b, rv = .map (some b) → ¬ S b) : RM w' base rv D := by
  rcases h with h | ⟨b, rfl, hb, hm⟩
  · exact .inl h
  · exact .inr ⟨b, rfl, hb, ownsMap_keep hm hk (hS b rfl)⟩
theorem RM.tidy (h : RM w base rv D) : Tidy D := by
  rcases h with ⟨_, rfl⟩ | ⟨b, rfl, hb, hm⟩
  · exact tidy_empty
  · exact hm.tidy law3
theorem RM.own (h : RM w base rv D) : ∀ b, rv = .map (some b) → base ≤ b ∧ b < w.heap.size := by
  rintro b rfl
  rcases h with ⟨h, _⟩ | ⟨b', h, hb, hm⟩
  · cases h
  · cases h
    exact ⟨hb, hm.lt⟩
theorem RM.ne_blk (h : RM w base rv D) {g : Nat} {t : TypeId} {cs : Array Value} (hb : Blk w g t cs) : ∀ b, rv = .map (some b) → b ≠ g := by
  rintro b rfl
  rcases h with ⟨h, _⟩ | ⟨b', h, _, hm⟩
  · cases h
  · cases h
    exact map_ne_blk hm hb
theorem RM.ne_q {e : TypeId} {v : Value} {xs : List Value} (h : RM w base rv D) (hq : QRow w base e v xs) : ∀ b, rv = .map (some b) → ∀ j, v.ownBlock = some j → j ≠ b := by
  rintro b rfl
  rcases h with ⟨h, _⟩ | ⟨b', h, _, hm⟩
  · cases h
  · cases h
    exact hq.ne_map hm

theorem wpList_lookR {ops : Array Oper} {rest : List Oper} {o : Oper} {a : Act} {Q : Exit → Act → World → Prop}
    (hg : o.guard = none) (m x : Operand) (hop : o.op = Op.lookup 44 m x true) (hm : a.eval m = rv) (hown : RM w base rv D) (key : Value) (kl : Lit) (hx : a.eval x = key) (hkey : keyOf Try.prog 3 key = some kl)
    (hK : wpList Try.prog ops Q rest (a.put o.dst (.tuple #[.agg #[], .bool (Maps.has D kl)])) w) :
    wpList Try.prog ops Q (o :: rest) a w := by
  rcases hown with ⟨rfl, rfl⟩ | ⟨b, rfl, _, hown⟩
  · refine wpList_plain hg fun K' hK' => ?_
    have hr := Maps.look_nil (P := Try.prog) (w := w) true law3 Try.underlying44 (zero48 w) hkey
    unfold Oper.wp
    simp [execOp, hop, hm, hx, hr, Result.andThen]
    rw [hasU_nil] at hK
    exact hK' _ _ hK
  · exact wpList_look decU encU decU_inv hg m x 44 hop 3 48 law3 Try.underlying44 () (zero48 w) rfl b _ D hm hown key kl hx hkey hK
theorem wpList_lenR {ops : Array Oper} {rest : List Oper} {o : Oper} {a : Act} {Q : Exit → Act → World → Prop}
    (hg : o.guard = none) (m : Operand) (hop : o.op = Op.call { callee := Callee.builtin Builtin.len, args := #[m], argTypes := #[44] }) (hm : a.eval m = rv) (hown : RM w base rv D)
    (hK : wpList Try.prog ops Q rest (a.put o.dst (.int .i64 (Maps.size D))) w) :
    wpList Try.prog ops Q (o :: rest) a w := by
  rcases hown with ⟨rfl, rfl⟩ | ⟨b, rfl, _, hown⟩
  · refine wpList_plain hg fun K' hK' => ?_
    have hr := Maps.len_nil (P := Try.prog) (w := w) Try.underlying44 o.type
    unfold Oper.wp
    simp [execOp, hop, resolve, invoke, builtin, hm, hr, Result.andThen]
    exact hK' _ _ (by simpa [Maps.size] using hK)
  · exact wpList_len_own w hg m 44 hop 3 48 Try.underlying44 (rdr decU) b _ D hm hown hK
theorem RM.run_len (h : RM w base rv D) (ty : TypeId) : (Builtin.len_ #[44] ty #[rv]).run Try.prog w = .ok (.int .i64 (Maps.size D)) w := by
  rcases h with ⟨rfl, rfl⟩ | ⟨b, rfl, _, hown⟩
  · simpa [Maps.size] using Maps.len_nil (P := Try.prog) (w := w) Try.underlying44 ty
  · exact hown.len Try.underlying44 ty
theorem wpList_delR {ops : Array Oper} {rest : List Oper} {o : Oper} {a : Act} {Q : Exit → Act → World → Prop}
    (hg : o.guard = none) (m x : Operand) (hop : o.op = Op.call { callee := Callee.builtin Builtin.delete, args := #[m, x], argTypes := #[44, 3] }) (hm : a.eval m = rv) (hown : RM w base rv D) (key : Value) (kl : Lit) (hx : a.eval x = key) (hkey : keyOf Try.prog 3 key = some kl)
    (hK : ∀ w', RM w' base rv (D.del kl) → Keep (fun k => rv = .map (some k)) w w' → wpList Try.prog ops Q rest (a.put o.dst (.tuple #[])) w') :
    wpList Try.prog ops Q (o :: rest) a w := by
  rcases hown with ⟨rfl, rfl⟩ | ⟨b, rfl, hb, hown⟩
  · refine wpList_plain hg fun K' hK' => ?_
    have hr := Maps.drop_nil (P := Try.prog) (w := w) law3 Try.underlying44 hkey o.type
    unfold Oper.wp
    simp [execOp, hop, resolve, invoke, builtin, hm, hx, hr, Result.andThen]
    exact hK' _ _ (hK w (.inl ⟨rfl, del_of_not_has (hasU_nil _)⟩) (Keep.refl _ _))
  · refine wpList_delete_own w hg m x 44 3 hop 48 law3 Try.underlying44 (rdr decU) b _ D hm hown key kl hx hkey fun w' h1 h2 => ?_
    exact hK w' (.inr ⟨b, rfl, hb, ownsMap_tight h1⟩) ((Keep.refl _ w).turned h2 (fun _ => rfl))
end
end Go.Proofs.Ytjehcdedljckbaa
