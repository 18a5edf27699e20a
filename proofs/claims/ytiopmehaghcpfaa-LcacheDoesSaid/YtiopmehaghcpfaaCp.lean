/- Copies of rows (append to nil), and the path of a name. -/
import Derived.Test.YtiopmehaghcpfaaSdP
import Derived.Deep.RegionLaw
import Derived.Deep.AppendLies
namespace Go.Proofs.Ytiopmehaghcpfaa
open Go.RowKit Go.Maps
set_option linter.unusedSimpArgs false
set_option linter.unusedVariables false

theorem below_grown {w w' : World} (h : w.grownBy w' none) : Below w.heap.size w w' := ⟨h.os, h.tape, h.output, h.size, fun k hk => h.block k hk (by simp)⟩

/-- append(nil, x...): a copy of a row, in a new block; of nothing, nothing. -/
theorem wp_clone {P : Program} {w : World} {o : Oper} {a : Act} {K : Act → World → Prop} {Q : Exit → Act → World → Prop} (x : Operand) (t : TypeId)
    (ho : o.op = .call { callee := .builtin .append, args := #[.const (.slice none 0 0), x], argTypes := #[t, t] })
    (e : TypeId) (i : TypeInfo) (z : Value) (size bytes : Nat) (ht : P.underlying t = some (.slice e)) (hi : P.info? e = some i) (hz : i.zero = some z)
    (hsize : i.size = size) (hby : i.bytes = bytes) (hzs : z.cells.size = size) (hsz : 0 < size)
    (base : Nat) (v : Value) (n : Nat) (xs : List Value) (hx : a.eval x = v) (hown : w.ownsRow base e size v n xs) (h1 : ∀ u ∈ xs, u.oneCell' = true)
    (h63 : n ≤ maxLen) (hbytes : n * bytes ≤ 140737488355328)
    (h : ∀ A c w', w'.ownsRow w.heap.size e size (.slice A n c) n xs → Below w.heap.size w w' → K (a.put o.dst (.slice A n c)) w') : Oper.wp P o a w K Q := by
  have h0 : w.ownsRow w.heap.size e size (.slice none 0 0) 0 [] := ⟨by simp, .inl ⟨rfl, rfl⟩⟩
  have hc : a.eval (.const (.slice none 0 0)) = .slice none 0 0 := rfl
  unfold Oper.wp execOp
  rcases hown.2 with ⟨rfl, rfl⟩ | ⟨g, cap, cur, rfl, hbg, hg, hnc, hcm, hcs, htake⟩
  · have hxs : xs = [] := List.eq_nil_of_length_eq_zero (by simpa using hown.1)
    subst hxs
    have hr : (Builtin.append_ #[t, t] o.type #[.slice none 0 0, .slice none 0 0]).run P w = .ok (.slice none 0 0) w := by
      simp [Builtin.append_, run_underlying ht, sizeOf, typeInfo, hi, Builtin.lenOf, Builtin.firstCells, loadCells, loadCellsFrom]
    simp only [ho, resolve, invoke, builtin, Sem.run_bind, Sem.run_pure, Result.andThen_ok, List.map_toArray, List.map_cons, List.map_nil, hx, hc, hr]
    exact h none 0 w h0 (Below.refl _ w)
  · obtain ⟨v', w', hr, h2, h3, _, _⟩ := run_append_own_at (P := P) w w.heap.size t o.type e i z size bytes ht hi hz hsize hby hzs hsz (.slice none 0 0) 0 [] h0 ⟨g, 0, none⟩ n cap xs hown.1 (hown.cells (g := g) rfl) h1 (by omega) (by simpa using hbytes) (Nat.le_refl _)
    simp only [ho, resolve, invoke, builtin, Sem.run_bind, Sem.run_pure, Result.andThen_ok, List.map_toArray, List.map_cons, List.map_nil, hx, hc, hr]
    rw [Nat.zero_add, List.nil_append] at h2
    obtain ⟨A, c, rfl⟩ := own_slice h2
    exact h A c w' h2 (below_grown h3)

theorem wpList_clone {P : Program} {w : World} {ops : Array Oper} {rest : List Oper} {o : Oper} {a : Act} {Q : Exit → Act → World → Prop} (hgd : o.guard = none) (x : Operand) (t : TypeId)
    (ho : o.op = .call { callee := .builtin .append, args := #[.const (.slice none 0 0), x], argTypes := #[t, t] })
    (e : TypeId) (i : TypeInfo) (z : Value) (size bytes : Nat) (ht : P.underlying t = some (.slice e)) (hi : P.info? e = some i) (hz : i.zero = some z)
    (hsize : i.size = size) (hby : i.bytes = bytes) (hzs : z.cells.size = size) (hsz : 0 < size)
    (base : Nat) (v : Value) (n : Nat) (xs : List Value) (hx : a.eval x = v) (hown : w.ownsRow base e size v n xs) (h1 : ∀ u ∈ xs, u.oneCell' = true)
    (h63 : n ≤ maxLen) (hbytes : n * bytes ≤ 140737488355328)
    (h : ∀ A c w', w'.ownsRow w.heap.size e size (.slice A n c) n xs → Below w.heap.size w w' → wpList P ops Q rest (a.put o.dst (.slice A n c)) w') : wpList P ops Q (o :: rest) a w :=
  wpList_plain hgd fun _ hK => wp_clone x t ho e i z size bytes ht hi hz hsize hby hzs hsz base v n xs hx hown h1 h63 hbytes (fun A c w' h2 h3 => hK _ _ (h A c w' h2 h3))

theorem step_clone {P : Program} {w : World} {ops : Array Oper} {o : Oper} {a : Act} {K : Act → World → Prop} {Q : Exit → Act → World → Prop} {E : Prop} (hgd : o.guard = none) (x : Operand) (t : TypeId)
    (ho : o.op = .call { callee := .builtin .append, args := #[.const (.slice none 0 0), x], argTypes := #[t, t] })
    (e : TypeId) (i : TypeInfo) (z : Value) (size bytes : Nat) (ht : P.underlying t = some (.slice e)) (hi : P.info? e = some i) (hz : i.zero = some z)
    (hsize : i.size = size) (hby : i.bytes = bytes) (hzs : z.cells.size = size) (hsz : 0 < size)
    (base : Nat) (v : Value) (n : Nat) (xs : List Value) (hx : a.eval x = v) (hown : w.ownsRow base e size v n xs) (h1 : ∀ u ∈ xs, u.oneCell' = true)
    (h63 : n ≤ maxLen) (hbytes : n * bytes ≤ 140737488355328)
    (h : ∀ A c w', w'.ownsRow w.heap.size e size (.slice A n c) n xs → Below w.heap.size w w' → K (a.put o.dst (.slice A n c)) w') :
    if Region.wanted o (yielded ops a.tmps) = true then Oper.wp P o a w K Q else E := by
  have hw : Region.wanted o (yielded ops a.tmps) = true := by simp [Region.wanted, hgd]
  rw [if_pos hw]
  exact wp_clone x t ho e i z size bytes ht hi hz hsize hby hzs hsz base v n xs hx hown h1 h63 hbytes h

/-- The path of a name of a directory. -/
abbrev sl : ByteArray := ⟨#[47]⟩
theorem sl_list : sl.toList = [47] := by rw [toList_eq]
def chd (dir s : ByteArray) : ByteArray := if dir = sl then dir ++ s else dir ++ sl ++ s

set_option maxHeartbeats 1000000 in
theorem child_calls (dir s : ByteArray) (w : World) (h1 : dir.size ≤ 9000000000) (h2 : s.size ≤ 9000000000) : Calls Try.prog 76 #[.string dir, .string s] w (Same (.string (chd dir s)) w) := by
  go_enter Try.func76, Try.ntmps76
  by_cases h : dir = sl
  · have e : chd dir s = dir ++ s := if_pos h
    have ht : (dir.toList == sl.toList) = true := eqB_yes h
    subst h
    go_wp2
    go_ret
    exact ⟨by rw [e]; rfl, rfl⟩
  · have e : chd dir s = dir ++ sl ++ s := if_neg h
    have ht : (dir.toList == [47]) = false := by have := eqB_not h; rwa [sl_list] at this
    go_wp2
    go_ret
    exact ⟨by rw [e]; rfl, rfl⟩
theorem child2_calls (dir s : ByteArray) (w : World) (h1 : dir.size ≤ 9000000000) (h2 : s.size ≤ 9000000000) : Calls Try.prog 61 #[.string dir, .string s] w (Same (.string (chd dir s)) w) := by
  go_enter Try.func61, Try.ntmps61
  by_cases h : dir = sl
  · have e : chd dir s = dir ++ s := if_pos h
    have ht : (dir.toList == sl.toList) = true := eqB_yes h
    subst h
    go_wp2
    go_ret
    exact ⟨by rw [e]; rfl, rfl⟩
  · have e : chd dir s = dir ++ sl ++ s := if_neg h
    have ht : (dir.toList == [47]) = false := by have := eqB_not h; rwa [sl_list] at this
    go_wp2
    go_ret
    exact ⟨by rw [e]; rfl, rfl⟩
end Go.Proofs.Ytiopmehaghcpfaa
