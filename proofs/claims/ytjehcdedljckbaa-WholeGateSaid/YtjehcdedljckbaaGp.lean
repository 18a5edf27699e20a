/- WholeGate: the plain part: who is in, who waits; what the law keeps. -/
import Derived.Test.YtjehcdedljckbaaGs
namespace Go.Proofs.Ytjehcdedljckbaa
open Go.RowKit Go.Maps
set_option linter.unusedSimpArgs false
set_option linter.unusedVariables false

/-- Who reads (R), who writes (W), who waits (Q). -/
structure GInv (D : DataW Unit) (R : List Int) (W : Int) (Q : List Int) (k : Nat) : Prop where
  has : ∀ j : Int, Maps.has D (iOf j) = decide (j ∈ R)
  size : Maps.size D = R.length
  nd : R.Nodup
  rb : ∀ j ∈ R, 0 ≤ j ∧ j ≤ 7
  wb : 0 ≤ W ∧ W ≤ 8
  ex : W ≠ 0 → R = []
  qn : Q.Nodup
  qb : ∀ j ∈ Q, 0 ≤ j ∧ j ≤ 7
  qi : ∀ j ∈ Q, j ∉ R ∧ W ≠ j + 1
  rl : R.length ≤ k
  ql : Q.length ≤ k
section
variable {D : DataW Unit} {R : List Int} {W : Int} {Q : List Int} {k : Nat}
theorem GInv.mono {k' : Nat} (h : GInv D R W Q k) (hk : k ≤ k') : GInv D R W Q k' := ⟨h.has, h.size, h.nd, h.rb, h.wb, h.ex, h.qn, h.qb, h.qi, Nat.le_trans h.rl hk, Nat.le_trans h.ql hk⟩
theorem GInv.isIn (h : GInv D R W Q k) (id : Int) : isIn D W id = decide (id ∈ R ∨ W = id + 1) := by
  unfold Ytjehcdedljckbaa.isIn
  rw [h.has]
  by_cases a : id ∈ R <;> by_cases b : W = id + 1 <;> simp [a, b]
theorem GInv.nil : GInv (.map []) [] 0 [] 0 := ⟨fun j => by rw [hasU_nil]; simp, rfl, List.nodup_nil, by simp, by omega, fun _ => rfl, List.nodup_nil, by simp, by simp, by simp, by simp⟩
theorem GInv.read (h : GInv D R 0 [] k) (ht : Tidy D) {id : Int} (h0 : 0 ≤ id) (h1 : id ≤ 7) (hR : id ∉ R) : GInv (D.put (iOf id) (.held ())) (id :: R) 0 [] (k + 1) := by
  refine ⟨fun j => ?_, ?_, List.nodup_cons.2 ⟨hR, h.nd⟩, fun j hj => ?_, by omega, fun h => absurd rfl h, List.nodup_nil, by simp, by simp, ?_, by simp⟩
  · by_cases e : j = id
    · subst e
      rw [has_put_same ht.isMap (isKey_iOf _)]
      simp
    · rw [has_put_other (by rw [Ne, iOf_inj]; exact e), h.has j]
      simp [e]
  · rw [size_put ht, h.has, h.size, if_neg (by simpa using hR)]
    simp
  · rcases List.mem_cons.1 hj with rfl | hj
    · omega
    · exact h.rb j hj
  · have := h.rl
    simp
    omega
theorem GInv.leave (h : GInv D R W Q k) (ht : Tidy D) (id : Int) : GInv (D.del (iOf id)) (R.erase id) (lvW W id) Q k := by
  have hw : lvW W id = W ∨ lvW W id = 0 := by unfold lvW; split <;> simp
  refine ⟨fun j => ?_, ?_, h.nd.erase id, fun j hj => h.rb j (List.mem_of_mem_erase hj), ?_, fun h' => ?_, h.qn, h.qb, fun j hj => ⟨fun h' => (h.qi j hj).1 (List.mem_of_mem_erase h'), ?_⟩, Nat.le_trans List.length_erase_le h.rl, h.ql⟩
  · by_cases e : j = id
    · subst e
      rw [has_del_same]
      have : j ∉ R.erase j := fun h' => by rw [h.nd.mem_erase_iff] at h'; exact h'.1 rfl
      symm
      simpa using this
    · rw [has_del_other (by rw [Ne, iOf_inj]; exact e), h.has j]
      simp [h.nd.mem_erase_iff, e]
  · have h1 := size_del (k := iOf id) ht
    rw [h.has] at h1
    have h2 := h.size
    by_cases e : id ∈ R
    · rw [List.length_erase_of_mem e]
      simp [e] at h1
      have := List.length_pos_of_mem e
      omega
    · rw [List.erase_of_not_mem e]
      simp [e] at h1
      omega
  · have := h.wb
    rcases hw with e | e <;> rw [e] <;> omega
  · rcases hw with e | e
    · rw [e] at h'
      rw [h.ex h']
      rfl
    · exact absurd e h'
  · have := (h.qi j hj).2
    have := (h.qb j hj).1
    rcases hw with e | e
    · rw [e]; assumption
    · rw [e]; omega
theorem GInv.left (h : GInv D R W Q k) (id : Int) (h0 : 0 ≤ id) : id ∉ R.erase id ∧ lvW W id ≠ id + 1 := by
  refine ⟨fun h' => by rw [h.nd.mem_erase_iff] at h'; exact h'.1 rfl, ?_⟩
  unfold lvW
  split <;> omega
theorem GInv.add (h : GInv D R W Q k) {id : Int} (h0 : 0 ≤ id) (h1 : id ≤ 7) (hin : id ∉ R ∧ W ≠ id + 1) (hQ : id ∉ Q) : GInv D R W (Q ++ [id]) (k + 1) := by
  refine ⟨h.has, h.size, h.nd, h.rb, h.wb, h.ex, ?_, fun j hj => ?_, fun j hj => ?_, Nat.le_succ_of_le h.rl, by have := h.ql; simp; omega⟩
  · rw [List.nodup_append]
    exact ⟨h.qn, by simp, fun a ha b hb e => by simp at hb; subst hb; subst e; exact hQ ha⟩
  · rcases List.mem_append.1 hj with hj | hj
    · exact h.qb j hj
    · simp at hj; omega
  · rcases List.mem_append.1 hj with hj | hj
    · exact h.qi j hj
    · simp at hj; subst hj; exact hin
theorem GInv.go {id : Int} {B : List Int} (h : GInv D R 0 (id :: B) k) (hR : R = []) : GInv D R (id + 1) B k := by
  subst hR
  have hb := h.qb id (by simp)
  have hn := List.nodup_cons.1 h.qn
  refine ⟨h.has, h.size, h.nd, h.rb, by omega, fun _ => rfl, hn.2, fun j hj => h.qb j (List.mem_cons_of_mem _ hj), fun j hj => ⟨by simp, fun e => by
    have e2 : id = j := by omega
    exact hn.1 (by rw [e2]; exact hj)⟩, h.rl, by have := h.ql; simp at this; omega⟩
theorem GInv.new {id : Int} (h : GInv D R 0 [] k) (h0 : 0 ≤ id) (h1 : id ≤ 7) (hR : R = []) : GInv D R (id + 1) [] k := by
  subst hR
  exact ⟨h.has, h.size, h.nd, h.rb, by omega, fun _ => rfl, List.nodup_nil, by simp, by simp, h.rl, by simp⟩
end

/-- What the law holds. -/
structure St (w0 w : World) (p3 p6 g gt bm bs : Nat) (rv : Value) (D : DataW Unit) (W : Int) (qv : Value) (Q : List Int) (lv : Value) (L : List Int) (made : Nat) : Prop where
  ins : InSt w w0.heap.size p3 p6 gt bm bs made
  gate : Gt w w0.heap.size g rv D W qv Q
  law : QRow w w0.heap.size 3 lv (ints L)
  ne : ∀ k, lv.ownBlock = some k → qv.ownBlock ≠ some k
  n1 : rvB rv ≠ some bm
  n2 : rvB rv ≠ some bs
  bel : Below w0.heap.size w0 w
section
variable {w0 w w' : World} {p3 p6 g gt bm bs : Nat} {rv : Value} {D : DataW Unit} {W : Int} {qv : Value} {Q : List Int} {lv : Value} {L : List Int} {made : Nat}
theorem St.below (h : St w0 w p3 p6 g gt bm bs rv D W qv Q lv L made) (hb : Below w.heap.size w w') : St w0 w' p3 p6 g gt bm bs rv D W qv Q lv L made :=
  ⟨h.ins.below hb, h.gate.below hb, h.law.keep (S := fun _ => False) (Keep.of_below hb) (by simp), h.ne, h.n1, h.n2, below_then h.bel h.bel.size hb⟩
theorem St.byGate (h : St w0 w p3 p6 g gt bm bs rv D W qv Q lv L made) {rv' : Value} {D' : DataW Unit} {W' : Int} {qv' : Value} {Q' : List Int} (hg : Gt w' w0.heap.size g rv' D' W' qv' Q')
    (hk : Keep (fun k => k = g ∨ rvB rv = some k ∨ qv.ownBlock = some k) w w') (hr : Near w (rvB rv) (rvB rv')) (hq : Near w qv.ownBlock qv'.ownBlock) : St w0 w' p3 p6 g gt bm bs rv' D' W' qv' Q' lv L made := by
  have hrv : ∀ {k}, rvB rv = some k → rv = .map (some k) := fun e => (rvB_iff h.gate.rm).1 e
  have far : ∀ {x t cs}, Blk w x t cs → t ≠ 47 → t ≠ 3 → ¬ (x = g ∨ rvB rv = some x ∨ qv.ownBlock = some x) := by
    intro x t cs hb h1 h2
    rintro (e | e | e)
    · exact hb.ne_ h.gate.blk h1 e
    · exact h.gate.rm.ne_blk hb _ (hrv e) rfl
    · exact h.gate.q.ne_blk hb (fun e => h2 e.symm) _ e rfl
  refine ⟨h.ins.keep hk (far h.ins.tp (by decide) (by decide)) (far h.ins.sp (by decide) (by decide)) (far h.ins.tab.blk (by decide) (by decide)) ?_ ?_, hg, h.law.keep hk ?_, fun k e e' => ?_, fun e => ?_, fun e => ?_, below_keep h.bel h.bel.size hk ?_⟩
  · rintro (e | e | e)
    · exact h.ins.tab.mapne h.gate.blk e
    · exact h.n1 e
    · exact h.ins.tab.qne h.gate.q _ e rfl
  · rintro (e | e | e)
    · exact h.ins.seen_ne h.gate.blk e
    · exact h.n2 e
    · exact h.ins.seen_q h.gate.q _ e rfl
  · rintro k hk' (e | e | e)
    · exact h.law.ne_blk h.gate.blk (by decide) k hk' e
    · exact h.gate.rm.ne_q h.law _ (hrv e) k hk' rfl
    · exact h.ne k hk' e
  · rcases hq k e' with e2 | e2
    · exact h.ne k e e2
    · have := (h.law.own k e).2
      omega
  · rcases hr bm e with e2 | e2
    · exact h.n1 e2
    · obtain ⟨D, ht, _⟩ := h.ins.tab
      have := ht.map.lt
      omega
  · rcases hr bs e with e2 | e2
    · exact h.n2 e2
    · obtain ⟨S, ht, _⟩ := h.ins.seen
      have := ht.lt
      omega
  · rintro k (e | e | e)
    · rw [e]; exact h.gate.hg
    · exact (h.gate.rm.own _ (hrv e)).1
    · exact (h.gate.q.own _ e).1
theorem St.byIn (h : St w0 w p3 p6 g gt bm bs rv D W qv Q lv L made) {made' : Nat} (hi : InSt w' w0.heap.size p3 p6 gt bm bs made') (hk : Keep (fun k => k = gt ∨ k = bm ∨ k = bs) w w') : St w0 w' p3 p6 g gt bm bs rv D W qv Q lv L made' := by
  have hrv : ∀ {k}, rv = .map (some k) → rvB rv = some k := fun e => (rvB_iff h.gate.rm).2 e
  refine ⟨hi, h.gate.keep hk ?_ ?_ ?_, h.law.keep hk ?_, h.ne, h.n1, h.n2, below_keep h.bel h.bel.size hk ?_⟩
  · rintro (e | e | e)
    · exact h.gate.blk.ne_ h.ins.tab.blk (by decide) e
    · exact h.ins.tab.mapne h.gate.blk e.symm
    · exact h.ins.seen_ne h.gate.blk e.symm
  · rintro b e (e' | e' | e')
    · exact h.gate.rm.ne_blk h.ins.tab.blk b e e'
    · exact h.n1 (by rw [← e']; exact hrv e)
    · exact h.n2 (by rw [← e']; exact hrv e)
  · rintro k e (e' | e' | e')
    · exact h.gate.q.ne_blk h.ins.tab.blk (by decide) k e e'
    · exact h.ins.tab.qne h.gate.q k e e'
    · exact h.ins.seen_q h.gate.q k e e'
  · rintro k e (e' | e' | e')
    · exact h.law.ne_blk h.ins.tab.blk (by decide) k e e'
    · exact h.ins.tab.qne h.law k e e'
    · exact h.ins.seen_q h.law k e e'
  · rintro k (e | e | e) <;> rw [e]
    · exact h.ins.bt
    · exact h.ins.bb
    · exact h.ins.bz
theorem St.byLaw (h : St w0 w p3 p6 g gt bm bs rv D W qv Q lv L made) {lv' : Value} {L' : List Int} (hl : QRow w' w0.heap.size 3 lv' (ints L')) (hk : Keep (fun k => lv.ownBlock = some k) w w') (hn : Near w lv.ownBlock lv'.ownBlock) : St w0 w' p3 p6 g gt bm bs rv D W qv Q lv' L' made := by
  refine ⟨h.ins.keep hk (fun e => h.law.ne_blk h.ins.tp (by decide) _ e rfl) (fun e => h.law.ne_blk h.ins.sp (by decide) _ e rfl) (fun e => h.law.ne_blk h.ins.tab.blk (by decide) _ e rfl) (fun e => h.ins.tab.qne h.law _ e rfl) (fun e => h.ins.seen_q h.law _ e rfl),
    h.gate.keep hk (fun e => h.law.ne_blk h.gate.blk (by decide) _ e rfl) (fun b e e' => h.gate.rm.ne_q h.law b e _ e' rfl) (fun k e e' => h.ne k e' e), hl, fun k e e' => ?_, h.n1, h.n2, below_keep h.bel h.bel.size hk (fun k e => (h.law.own k e).1)⟩
  rcases hn k e with e2 | e2
  · exact h.ne k e2 e'
  · have := (h.gate.q.own k e').2
    omega
end
end Go.Proofs.Ytjehcdedljckbaa
