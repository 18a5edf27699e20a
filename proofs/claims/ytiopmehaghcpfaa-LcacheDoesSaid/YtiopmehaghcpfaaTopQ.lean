/- WholeRoom: its state. -/
import Derived.Test.YtiopmehaghcpfaaTopP
import Derived.Test.YtiopmehaghcpfaaInts
namespace Go.Proofs.Ytiopmehaghcpfaa
open Go.RowKit Go.Maps

def RR (n : Nat) (r2 : Int) (i : Nat) : Int := if i < 1 + n then 300 else r2
structure Bst (w0 w : World) (n : Nat) (r2 : Int) (g8 g9 : Nat) (v8 v9 : Value) (G : Nat → Nat) (V : Nat → Value) (Ls : Nat → PL) : Prop where
  fam : Fam w w0.heap.size (1 + n + n) (RR n r2) G V Ls
  s8 : Shb w g8 g8 n v8 (fun j => G (1 + j))
  s9 : Shb w g9 g9 n v9 (fun j => G (1 + n + j))
  below : Below w0.heap.size w0 w
section
variable {w0 w w' : World} {n : Nat} {r2 : Int} {g8 g9 : Nat} {v8 v9 : Value} {G : Nat → Nat} {V : Nat → Value} {Ls : Nat → PL} {i : Nat} {l' : PL} {res : Value} {e : Ending}
theorem Bst.put (h : Bst w0 w n r2 g8 g9 v8 v9 G V Ls) (hi : i < 1 + n + n) (hp : PutS w0.heap.size (G i) (RR n r2 i) (V i) l' res w e w') : e = .returned res ∧ ∃ V', Bst w0 w' n r2 g8 g9 v8 v9 G V' (up Ls i l') := by
  obtain ⟨he, v', hF, hk⟩ := after_put h.fam hi hp
  exact ⟨he, _, hF, h.s8.by_fam h.fam hi hk, h.s9.by_fam h.fam hi hk, below_fam h.fam hi h.below h.below.size (Nat.le_refl _) hk⟩
theorem Bst.get (h : Bst w0 w n r2 g8 g9 v8 v9 G V Ls) (hi : i < 1 + n + n) (hp : GetS w0.heap.size (G i) (RR n r2 i) (V i) l' res w e w') : e = .returned res ∧ Bst w0 w' n r2 g8 g9 v8 v9 G V (up Ls i l') := by
  obtain ⟨he, hF, hk⟩ := after_get h.fam hi hp
  exact ⟨he, hF, h.s8.by_fam h.fam hi hk, h.s9.by_fam h.fam hi hk, below_fam h.fam hi h.below h.below.size (Nat.le_refl _) hk⟩
end

/-- What the lists have to do with one another. -/
structure Rel (n : Nat) (r2 : Int) (Ls : Nat → PL) : Prop where
  nd : ((Ls 0).map (·.1)).Nodup
  p8 : ∀ j, j < n → Ls (1 + j) = part n (Ls 0) j
  p9 : ∀ j, j < n → ((Ls (1 + n + j)).map (·.1)).Nodup ∧ ((Ls (1 + n + j)).length : Int) ≤ r2 ∧ ∀ p, p ∈ Ls (1 + n + j) → p ∈ Ls 0 ∧ shd n p.1 = j
theorem Rel.step {n : Nat} {r2 : Int} {Ls : Nat → PL} (h : Rel n r2 Ls) (hn : 0 < n) (k : ByteArray) (x : Int) (l2 : PL) (h1 : (l2.map (·.1)).Nodup) (h2 : (l2.length : Int) ≤ r2)
    (h3 : ∀ p, p ∈ l2 → p = (k, x) ∨ (p ∈ Ls (1 + n + shd n k) ∧ p.1 ≠ k)) :
    Rel n r2 (up (up (up Ls 0 (useL k x (Ls 0))) (1 + shd n k) (useL k x (Ls (1 + shd n k)))) (1 + n + shd n k) l2) := by
  have hj := shd_lt hn k
  have e0 : up (up (up Ls 0 (useL k x (Ls 0))) (1 + shd n k) (useL k x (Ls (1 + shd n k)))) (1 + n + shd n k) l2 0 = useL k x (Ls 0) := by
    rw [up_other _ _ _ (by omega), up_other _ _ _ (by omega), up_same]
  refine ⟨by rw [e0]; exact useL_nodup k x _ h.nd, fun j hjn => ?_, fun j hjn => ?_⟩
  · rw [e0, up_other _ _ _ (by omega)]
    by_cases e : j = shd n k
    · subst e
      rw [up_same, part_use, h.p8 _ hjn]
    · rw [up_other _ _ _ (by omega), up_other _ _ _ (by omega), part_use_other n _ k x j e, h.p8 _ hjn]
  · rw [e0]
    by_cases e : j = shd n k
    · subst e
      rw [up_same]
      refine ⟨h1, h2, fun p hp => ?_⟩
      rcases h3 p hp with rfl | ⟨hm, hk⟩
      · exact ⟨(mem_useL _ _ _ _).2 (.inl rfl), rfl⟩
      · have := (h.p9 _ hjn).2.2 p hm
        exact ⟨(mem_useL _ _ _ _).2 (.inr ⟨this.1, hk⟩), this.2⟩
    · rw [up_other _ _ _ (by omega), up_other _ _ _ (by omega), up_other _ _ _ (by omega)]
      obtain ⟨a, b, c⟩ := h.p9 j hjn
      refine ⟨a, b, fun p hp => ?_⟩
      have := c p hp
      refine ⟨(mem_useL _ _ _ _).2 (.inr ⟨this.1, ?_⟩), this.2⟩
      rintro e2
      exact e (by rw [← this.2, e2])
theorem mem_keys_use (k j : ByteArray) (x : Int) (l : PL) : j ∈ (useL k x l).map (·.1) ↔ j = k ∨ j ∈ l.map (·.1) := by
  constructor
  · intro h
    obtain ⟨p, hp, rfl⟩ := List.mem_map.1 h
    rcases (mem_useL _ _ _ _).1 hp with rfl | hp
    · exact .inl rfl
    · exact .inr (List.mem_map_of_mem hp.1)
  · rintro (rfl | h)
    · exact List.mem_map.2 ⟨(j, x), (mem_useL _ _ _ _).2 (.inl rfl), rfl⟩
    · obtain ⟨p, hp, rfl⟩ := List.mem_map.1 h
      by_cases e : p.1 = k
      · exact List.mem_map.2 ⟨(k, x), (mem_useL _ _ _ _).2 (.inl rfl), e.symm⟩
      · exact List.mem_map.2 ⟨p, (mem_useL _ _ _ _).2 (.inr ⟨hp, e⟩), rfl⟩

/-- A slice of strings that came in. -/
def SArg (w : World) (A : Option Addr) (n : Nat) (F : Nat → ByteArray) : Prop :=
  0 < n → ∃ b off, A = some ⟨b, off, none⟩ ∧ b < w.heap.size ∧ ∀ i, i < n → (F i).size ≤ 9223372036854775807 ∧ w.cell? ⟨b, off + i, none⟩ = some (.string (F i))
section
open Go.ChangeShapes Go.WideShapes Go.ChangeAt Go.Deep
variable {H : Type} {enc : TypeId × Value → H} {P : Program} {w : World} {base : Nat} {spare : Nat → Bool} {held : Bool}
theorem sarg_of {A : Option Addr} {len cap : Nat} {d : DataW H} {p : List MemPlace} (h : DataW.Trod enc Try.prog w base spare held 32 (.slice A len cap) d p) :
    ∃ F : Nat → ByteArray, SArg w A len F ∧ len ≤ 9223372036854775807 := by
  obtain ⟨fuel, hf⟩ := h
  rcases open_slice_one Try.underlying32 (by kernel_rfl) hf with h0 | ⟨a, l, c, hcs, hl, hm, hi⟩
  · simp [Value.cells] at h0
    obtain ⟨rfl, rfl, rfl⟩ := h0
    exact ⟨fun _ => ⟨#[]⟩, fun h => absurd h (by omega), by omega⟩
  · simp [Value.cells] at hcs
    obtain ⟨rfl, rfl, rfl⟩ := hcs
    have hone : ∀ i, i < len → ∃ x : ByteArray, x.size ≤ 9223372036854775807 ∧ w.cell? (a.add i) = some (.string x) := by
      intro i hil
      obtain ⟨v0, y0, n0, c0, t0⟩ := hi i hil
      obtain ⟨x0, e0, _, w0⟩ := DataW.trod_string Try.underlying9 t0
      simp at e0
      subst e0
      exact ⟨x0, by unfold maxLen at w0; omega, c0⟩
    obtain ⟨F, hF⟩ := choose_lt hone
    refine ⟨F, fun hpos => ?_, by unfold maxLen at hm; omega⟩
    obtain ⟨b, off, spot⟩ := a
    have hsp : spot = none := by
      have := (hF 0 hpos).2
      simpa [Addr.add] using World.cell?_spot this
    subst hsp
    refine ⟨b, off, rfl, World.block_lt_of_cell? w _ (by simpa [Addr.add] using (hF 0 hpos).2), fun i hil => ?_⟩
    obtain ⟨ok, c0⟩ := hF i hil
    refine ⟨ok, ?_⟩
    by_cases e : i = 0
    · subst e; simpa [Addr.add] using c0
    · simpa [Addr.add, e] using c0
end
end Go.Proofs.Ytiopmehaghcpfaa
