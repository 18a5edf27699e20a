/- Rows of elements of several cells: copy within a row, a store into one, append; no program in sight. -/
import Derived.Test.YtkmojgdjapfbbaaDoorBase
import Derived.Maps.AppendAt
import Derived.Laws.CopyRow
import Derived.Deep.DeepCutAuto
import Derived.Deep.CutBlock
namespace Go.Proofs.YtkmojgdjapfbbaaDoor
open Go.RowKit Go.Maps

theorem row_keep {w w' : World} {base e size n : Nat} {v : Value} {xs : List Value} {S : Nat → Prop} (h : w.ownsRow base e size v n xs) (hk : Keep S w w') (h2 : ∀ k, v.ownBlock = some k → ¬ S k) : w'.ownsRow base e size v n xs := by
  obtain ⟨hl, hr⟩ := h
  refine ⟨hl, ?_⟩
  rcases hr with hr | ⟨r, cap, cur, rfl, hbr, hh, r'⟩
  · exact .inl hr
  · have hlt : r < w.heap.size := (Array.getElem?_eq_some_iff.1 hh).1
    exact .inr ⟨r, cap, cur, rfl, hbr, (hk.block r hlt (h2 r rfl)).trans hh, r'⟩
theorem row_ne {w : World} {base e size n : Nat} {v : Value} {xs : List Value} (h : w.ownsRow base e size v n xs) {b : Nat} {t : TypeId} {cs : Array Value} (hb : Blk w b t cs) (ht : t ≠ e) : some b ≠ v.ownBlock := by
  rcases h.2 with ⟨rfl, _⟩ | ⟨r, cap, cur, rfl, _, hh, _⟩
  · simp [Value.ownBlock]
  · intro he
    have : b = r := by simpa [Value.ownBlock] using he
    subst this
    exact ht (by unfold Blk at hb; rw [hb] at hh; injection hh with hh; injection hh)
theorem row_base {w : World} {base e size n : Nat} {v : Value} {xs : List Value} (h : w.ownsRow base e size v n xs) : ∀ k, some k = v.ownBlock → base ≤ k := by
  intro k hk
  rcases h.2 with ⟨rfl, _⟩ | ⟨r, cap, cur, rfl, hb, _⟩
  · simp [Value.ownBlock] at hk
  · simp [Value.ownBlock] at hk; omega
theorem row_lt {w : World} {base e size n : Nat} {v : Value} {xs : List Value} (h : w.ownsRow base e size v n xs) : ∀ k, some k = v.ownBlock → k < w.heap.size := by
  intro k hk
  rcases h.2 with ⟨rfl, _⟩ | ⟨r, cap, cur, rfl, hb, hh, _⟩
  · simp [Value.ownBlock] at hk
  · have : k = r := by simpa [Value.ownBlock] using hk
    subst this
    exact (Array.getElem?_eq_some_iff.1 hh).1
theorem own_slice {w : World} {base n : Nat} {e : TypeId} {size : Nat} {v : Value} {xs : List Value} (h : w.ownsRow base e size v n xs) : ∃ A c, v = .slice A n c := by
  rcases h.2 with ⟨rfl, rfl⟩ | ⟨g, cap, cur, rfl, _⟩
  · exact ⟨none, 0, rfl⟩
  · exact ⟨_, cap, rfl⟩

/-- The world in which block g holds other cells. -/
theorem setRow_keep (w : World) (g : Nat) (cs : Array Value) : Keep (fun k => k = g) w (w.setRow g cs) :=
  ⟨rfl, rfl, rfl, by simp [World.setRow], fun k _ hk => setRow_other w g k cs hk⟩
/-- A row over which cells were laid, from place o on. -/
theorem row_lay {w : World} {base e size n r cap : Nat} {xs : List Value} (h : w.ownsRow base e size (.slice (some ⟨r, 0, none⟩) n cap) n xs) (cur : Array Value) (hc : w.heap[r]? = some (.cells cur e (0, 0))) (o : Nat) (cs : List Value) (ho : o + cs.length ≤ n * size) :
    (w.setRow r (cur.toList.take o ++ cs ++ cur.toList.drop (o + cs.length)).toArray).ownsRow base e size (.slice (some ⟨r, 0, none⟩) n cap) n (xs.take o ++ cs ++ xs.drop (o + cs.length)) := by
  obtain ⟨hl, hr⟩ := h
  rcases hr with ⟨hr, _⟩ | ⟨r', cap', cur', hv, hb, hh, hnc, hcm, hcs, htk⟩
  · simp at hr
  · simp only [Value.slice.injEq, Option.some.injEq, Addr.mk.injEq, and_true, true_and] at hv
    obtain ⟨rfl, rfl⟩ := hv
    rw [hc] at hh
    injection hh with hh
    injection hh with hh
    subst hh
    have hsz : n * size ≤ cur.size := by rw [hcs]; exact Nat.mul_le_mul_right _ hnc
    refine ⟨by simp; omega, .inr ⟨r, cap, _, rfl, hb, setRow_heap w r cur _ e _ hc, hnc, hcm, ?_, ?_⟩⟩
    · simp; omega
    · rw [← htk]
      have l1 : (cur.toList.take o ++ cs).length = o + cs.length := by simp; omega
      rw [List.take_append, l1, List.take_of_length_le (by rw [l1]; omega), List.take_take, List.drop_take, Nat.min_eq_left (by omega)]

theorem run_copy_multi {P : Program} (w : World) (dT sT ty elem : TypeId) (g o dLen dCap sz : Nat) (a : Addr) (sLen sCap : Nat) (cur : Array Value) (t : TypeId) (cs : List Value)
    (hu : P.underlying dT = some (.slice elem)) (hs : (P.info? elem).map (·.size) = some sz)
    (hg : w.heap[g]? = some (.cells cur t (0, 0))) (hn : cs.length = Nat.min sLen dLen * sz)
    (hsrc : ∀ j v, cs[j]? = some v → w.cell? (a.add j) = some v) (hfit : o + cs.length ≤ cur.size) (h1 : ∀ v ∈ cs, v.oneCell' = true) :
    (Builtin.copy_ #[dT, sT] ty #[.slice (some ⟨g, o, none⟩) dLen dCap, .slice (some a) sLen sCap]).run P w =
      .ok (goInt (Nat.min sLen dLen)) (w.setRow g (cur.toList.take o ++ cs ++ cur.toList.drop (o + cs.length)).toArray) := by
  have hl := run_loadCells_list (P := P) w a cs hsrc
  have hst := run_storeCells_at P g o t cs 0 cur w hg (by simpa using hfit) h1
  cases hq : P.info? elem with
  | none => simp [hq] at hs
  | some i =>
    have hi : i.size = sz := by simpa [hq] using hs
    simp [Builtin.copy_, run_underlying hu, Builtin.lenOf, Builtin.firstCells, sizeOf, typeInfo, hq, hi, ← hn, hl, hst]
theorem run_copy_zero {P : Program} (w : World) (dT sT ty elem : TypeId) (d a : Option Addr) (dLen dCap sLen sCap sz : Nat) (hu : P.underlying dT = some (.slice elem)) (hs : (P.info? elem).map (·.size) = some sz) (hn : Nat.min sLen dLen = 0) :
    (Builtin.copy_ #[dT, sT] ty #[.slice d dLen dCap, .slice a sLen sCap]).run P w = .ok (goInt 0) w := by
  cases hq : P.info? elem with
  | none => simp [hq] at hs
  | some i =>
    have hl : ∀ (x : Addr), (loadCells x 0).run P w = .ok #[] w := fun x => by simpa using run_loadCells_list (P := P) w x [] (by simp)
    cases d <;> cases a <;> simp [Builtin.copy_, run_underlying hu, Builtin.lenOf, Builtin.firstCells, sizeOf, typeInfo, hq, hn, storeCells, hl]

/-- 'copy(l[1:at+1], l[:at])': a row's first elements go one place on. -/
theorem wpList_copy_on {P : Program} {w : World} {ops : Array Oper} {rest : List Oper} {o : Oper} {a : Act} {Q : Exit → Act → World → Prop} (hgd : o.guard = none) (d s : Operand) (dT sT : TypeId)
    (ho : o.op = .call { callee := .builtin .copy, args := #[d, s], argTypes := #[dT, sT] }) (elem : TypeId) (hu : P.underlying dT = some (.slice elem)) (sz : Nat) (hsz : (P.info? elem).map (·.size) = some sz)
    (dp sp : Option Addr) (at_ dCap sCap : Nat) (hd : a.eval d = .slice dp at_ dCap) (hs : a.eval s = .slice sp at_ sCap)
    (base r n cap : Nat) (xs : List Value) (hown : w.ownsRow base elem sz (.slice (some ⟨r, 0, none⟩) n cap) n xs) (hat : at_ < n)
    (hdp : 0 < at_ → dp = some ⟨r, sz, none⟩ ∧ sp = some ⟨r, 0, none⟩) (h1 : ∀ v ∈ xs, v.oneCell' = true)
    (h : ∀ w', w'.ownsRow base elem sz (.slice (some ⟨r, 0, none⟩) n cap) n (xs.take sz ++ xs.take (at_ * sz) ++ xs.drop (sz + at_ * sz)) → Keep (fun k => k = r) w w' → wpList P ops Q rest (a.put o.dst (goInt at_)) w') :
    wpList P ops Q (o :: rest) a w := by
  have hmin : Nat.min at_ at_ = at_ := Nat.min_self at_
  have hle : sz + at_ * sz ≤ n * sz := by
    have := Nat.mul_le_mul_right sz (show at_ + 1 ≤ n by omega)
    rw [Nat.add_mul, Nat.one_mul] at this
    omega
  refine wpList_plain hgd fun K hK => ?_
  by_cases h0 : at_ = 0
  · subst h0
    have hrun := run_copy_zero (P := P) w dT sT o.type elem dp sp 0 dCap 0 sCap sz hu hsz (by rfl)
    unfold Oper.wp
    simp [execOp, ho, resolve, invoke, builtin, hd, hs, hrun, Result.andThen]
    refine hK _ _ (h w ?_ (Keep.refl _ w))
    simpa using hown
  · obtain ⟨rfl, rfl⟩ := hdp (by omega)
    obtain ⟨cur, hc, hcs, htk⟩ : ∃ cur : Array Value, w.heap[r]? = some (.cells cur elem (0, 0)) ∧ n * sz ≤ cur.size ∧ cur.toList.take (n * sz) = xs := by
      rcases hown.2 with ⟨hr, _⟩ | ⟨r', cap', cur', hv, hb, hh, hnc, hcm, hcs, htk⟩
      · simp at hr
      · simp only [Value.slice.injEq, Option.some.injEq, Addr.mk.injEq, and_true, true_and] at hv
        obtain ⟨rfl, rfl⟩ := hv
        exact ⟨cur', hh, by rw [hcs]; exact Nat.mul_le_mul_right _ hnc, htk⟩
    have hxl : xs.length = n * sz := hown.1
    have hlen : (xs.take (at_ * sz)).length = at_ * sz := by rw [List.length_take]; omega
    have hrun := run_copy_multi (P := P) w dT sT o.type elem r sz at_ dCap sz ⟨r, 0, none⟩ at_ sCap cur elem (xs.take (at_ * sz)) hu hsz hc (by rw [hlen, hmin])
      (fun j v hj => by
        have hjl : j < at_ * sz := by
          rcases Nat.lt_or_ge j (at_ * sz) with h | h
          · exact h
          · rw [List.getElem?_eq_none (by omega)] at hj; cases hj
        have e : (⟨r, 0, none⟩ : Addr).add j = ⟨r, j, none⟩ := by unfold Addr.add; split <;> simp_all
        rw [e, hown.cellAt j (by omega)]
        rw [List.getElem?_take_of_lt hjl] at hj
        exact hj)
      (by rw [hlen]; omega) (fun v hv => h1 v (List.mem_of_mem_take hv))
    rw [hmin] at hrun
    unfold Oper.wp
    simp only [execOp, ho, resolve, invoke, builtin, Sem.run_bind, Sem.run_pure, Result.andThen_ok, List.map_toArray, List.map_cons, List.map_nil, hd, hs, hrun]
    refine hK _ _ (h _ ?_ (setRow_keep w r _))
    have := row_lay hown cur hc sz (xs.take (at_ * sz)) (by rw [hlen]; omega)
    rw [hlen] at this ⊢
    exact this

/-- A struct stored into a row. -/
theorem wpList_lay {P : Program} {w : World} {ops : Array Oper} {rest : List Oper} {o : Oper} {a : Act} {Q : Exit → Act → World → Prop} (hgd : o.guard = none) (ty : TypeId) (x y : Operand) (ho : o.op = .store ty x y)
    (base r n cap off elem sz : Nat) (xs : List Value) (cells : Array Value) (hx : a.eval x = .pointer (some ⟨r, off, none⟩)) (hy : a.eval y = .agg cells) (hi : (P.info? ty).map (·.size) = some cells.size)
    (hown : w.ownsRow base elem sz (.slice (some ⟨r, 0, none⟩) n cap) n xs) (hfit : off + cells.size ≤ n * sz) (h1 : ∀ v ∈ cells.toList, v.oneCell' = true)
    (h : ∀ w', w'.ownsRow base elem sz (.slice (some ⟨r, 0, none⟩) n cap) n (xs.take off ++ cells.toList ++ xs.drop (off + cells.size)) → Keep (fun k => k = r) w w' → wpList P ops Q rest (a.put o.dst undef) w') :
    wpList P ops Q (o :: rest) a w := by
  refine wpList_plain hgd fun K hK => ?_
  obtain ⟨cur, hc, hcs⟩ : ∃ cur : Array Value, w.heap[r]? = some (.cells cur elem (0, 0)) ∧ n * sz ≤ cur.size := by
    rcases hown.2 with ⟨hr, _⟩ | ⟨r', cap', cur', hv, hb, hh, hnc, hcm, hcs, htk⟩
    · simp at hr
    · simp only [Value.slice.injEq, Option.some.injEq, Addr.mk.injEq, and_true, true_and] at hv
      obtain ⟨rfl, rfl⟩ := hv
      exact ⟨cur', hh, by rw [hcs]; exact Nat.mul_le_mul_right _ hnc⟩
  have hst := run_storeCells_at P r off elem cells.toList 0 cur w hc (by simp; omega) h1
  have hsv : (storeVar ty ⟨r, off, none⟩ (.agg cells)).run P w = .ok () (w.setRow r (cur.toList.take off ++ cells.toList ++ cur.toList.drop (off + cells.size)).toArray) := by
    cases hq : P.info? ty with
    | none => simp [hq] at hi
    | some i =>
      have hs : cells.size = i.size := by simp [hq] at hi; omega
      simp at hst
      simp [storeVar, sizeOf, typeInfo, hq, Value.cells, hs, hst]
  unfold Oper.wp execOp
  simp only [ho, hx, hy, Instr.storeAt, Instr.sureAddr, Sem.run_bind, Sem.run_pure, Result.andThen_ok, hsv]
  have := row_lay hown cur hc off cells.toList (by simpa using hfit)
  rw [Array.length_toList] at this
  exact hK _ _ (h _ this (setRow_keep w r _))

/-- append, its result's shape written out. -/
theorem wpList_app {P : Program} {w : World} {ops : Array Oper} {rest : List Oper} {o : Oper} {a : Act} {Q : Exit → Act → World → Prop} (hgd : o.guard = none) (s x : Operand) (t : TypeId)
    (ho : o.op = .call { callee := .builtin .append, args := #[s, x], argTypes := #[t, t] })
    (base : Nat) (e : TypeId) (i : TypeInfo) (z : Value) (size bytes : Nat) (ht : P.underlying t = some (.slice e)) (hi : P.info? e = some i) (hz : i.zero = some z)
    (hsize : i.size = size) (hby : i.bytes = bytes) (hzs : z.cells.size = size) (hsz : 0 < size)
    (v : Value) (n : Nat) (xs : List Value) (hs : a.eval s = v) (hown : w.ownsRow base e size v n xs)
    (ad : Addr) (m c : Nat) (news : List Value) (hx : a.eval x = .slice (some ad) m c) (hl : news.length = m * size) (hnews : ∀ j u, news[j]? = some u → w.cell? (ad.add j) = some u) (h1 : ∀ u ∈ news, u.oneCell' = true)
    (h63 : n + m ≤ maxLen) (hbytes : (n + m) * bytes ≤ 140737488355328) (hbase : base ≤ w.heap.size)
    (h : ∀ A c' w', w'.ownsRow base e size (.slice A (n + m) c') (n + m) (xs ++ news) → w.grownBy w' v.ownBlock → ((Value.slice A (n + m) c').ownBlock = v.ownBlock ∨ (Value.slice A (n + m) c').ownBlock = some w.heap.size) → wpList P ops Q rest (a.put o.dst (.slice A (n + m) c')) w') :
    wpList P ops Q (o :: rest) a w :=
  wpList_append_own_at w hgd s x t ho base e i z size bytes ht hi hz hsize hby hzs hsz v n xs hs hown ad m c news hx hl hnews h1 h63 hbytes hbase (fun v' w' ho hg _ hl => by
    obtain ⟨A, c', rfl⟩ := own_slice ho
    exact h A c' w' ho hg hl)
end Go.Proofs.YtkmojgdjapfbbaaDoor
