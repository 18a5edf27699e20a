/- WholeGate: its closure, and the plain part of what is kept. -/
import Derived.Test.YtjehcdedljckbaaGate6
import Derived.Test.YtjehcdedljckbaaRoomW
namespace Go.Proofs.Ytjehcdedljckbaa
open Go.RowKit Go.Maps
set_option linter.unusedSimpArgs false
set_option linter.unusedVariables false

/-- Just the numbers 1 .. b are in the set. -/
structure RngU (D : DataW Unit) (b : Nat) : Prop where
  has : ∀ j : Int, Maps.has D (iOf j) = decide (0 < j ∧ j ≤ b)
  size : Maps.size D = b
theorem RngU.nil : RngU (.map []) 0 := ⟨fun j => by rw [hasU_nil]; symm; simp, rfl⟩
theorem RngU.put {D : DataW Unit} {b : Nat} (h : RngU D b) (ht : Tidy D) (d : DataW Unit) : RngU (D.put (iOf ((b : Int) + 1)) d) (b + 1) := by
  refine ⟨fun j => ?_, ?_⟩
  · by_cases e : j = (b : Int) + 1
    · subst e
      rw [has_put_same ht.isMap (isKey_iOf _)]
      symm; simp
      first | done | omega
    · rw [has_put_other (by rw [Ne, iOf_inj]; exact e), h.has j]
      congr 1
      apply propext
      push_cast
      omega
  · rw [size_put ht, h.has, if_neg (by simp; omega), h.size]

/-- What the closure holds. -/
structure InSt (w : World) (base p3 p6 gt bm bs made : Nat) : Prop where
  tp : Blk w p3 23 #[.pointer (some ⟨gt, 0, none⟩)]
  sp : Blk w p6 44 #[.map (some bs)]
  tab : TabR w gt 1024 bm 0 made
  seen : ∃ S, w.ownsMap Try.prog 3 (rdr decU) bs (Maps.size S) S ∧ RngU S made
  ne : bs ≠ bm
  b3 : base ≤ p3
  b6 : base ≤ p6
  bt : base ≤ gt
  bb : base ≤ bm
  bz : base ≤ bs
theorem TabR.keep' {w w' : World} {g : Nat} {room : Int} {bm a b : Nat} {S : Nat → Prop} (h : TabR w g room bm a b) (hk : Keep S w w') (h1 : ¬ S g) (h2 : ¬ S bm) : TabR w' g room bm a b := by
  obtain ⟨D, h, hr⟩ := h
  exact ⟨D, h.keep hk h1 h2, hr⟩
theorem TabR.blk {w : World} {g : Nat} {room : Int} {bm a b : Nat} (h : TabR w g room bm a b) : Blk w g 53 #[.int .i64 room, .int .i64 b, .map (some bm)] := by
  obtain ⟨D, h, hr⟩ := h
  exact h.blk
theorem TabR.mapne {w : World} {g : Nat} {room : Int} {bm a b : Nat} (h : TabR w g room bm a b) {x : Nat} {t : TypeId} {cs : Array Value} (hb : Blk w x t cs) : bm ≠ x := by
  obtain ⟨D, h, hr⟩ := h
  exact map_ne_blk h.map hb
theorem TabR.qne {w : World} {g : Nat} {room : Int} {bm a b : Nat} (h : TabR w g room bm a b) {base : Nat} {e : TypeId} {v : Value} {xs : List Value} (hq : QRow w base e v xs) : ∀ k, v.ownBlock = some k → k ≠ bm := by
  obtain ⟨D, h, hr⟩ := h
  exact hq.ne_map h.map
section
variable {w w' : World} {base p3 p6 gt bm bs made : Nat}
theorem InSt.seen_ne (h : InSt w base p3 p6 gt bm bs made) {x : Nat} {t : TypeId} {cs : Array Value} (hb : Blk w x t cs) : bs ≠ x := by
  obtain ⟨S, hm, _⟩ := h.seen
  exact map_ne_blk hm hb
theorem InSt.seen_q (h : InSt w base p3 p6 gt bm bs made) {b : Nat} {e : TypeId} {v : Value} {xs : List Value} (hq : QRow w b e v xs) : ∀ k, v.ownBlock = some k → k ≠ bs := by
  obtain ⟨S, hm, _⟩ := h.seen
  exact hq.ne_map hm
theorem InSt.keep {S : Nat → Prop} (h : InSt w base p3 p6 gt bm bs made) (hk : Keep S w w') (h1 : ¬ S p3) (h2 : ¬ S p6) (h3 : ¬ S gt) (h4 : ¬ S bm) (h5 : ¬ S bs) : InSt w' base p3 p6 gt bm bs made := by
  obtain ⟨D, hm, hr⟩ := h.seen
  exact ⟨h.tp.keep hk h1, h.sp.keep hk h2, h.tab.keep' hk h3 h4, ⟨D, ownsMap_keep hm hk h5, hr⟩, h.ne, h.b3, h.b6, h.bt, h.bb, h.bz⟩
theorem InSt.below (h : InSt w base p3 p6 gt bm bs made) (hb : Below w.heap.size w w') : InSt w' base p3 p6 gt bm bs made := h.keep (S := fun _ => False) (Keep.of_below hb) (by simp) (by simp) (by simp) (by simp) (by simp)

def InP (base p3 p6 gt bm bs made : Nat) (w : World) (e : Ending) (w' : World) : Prop := e = .returned (.bool true) ∧ InSt w' base p3 p6 gt bm bs (made + 1) ∧ Keep (fun k => k = gt ∨ k = bm ∨ k = bs) w w'
set_option maxHeartbeats 1000000 in
theorem in_calls (h : InSt w base p3 p6 gt bm bs made) (id : Int) (hm : made < 1000) : Calls Try.prog 14 #[.int .i64 id, .pointer (some ⟨p3, 0, none⟩), .pointer (some ⟨p6, 0, none⟩)] w (InP base p3 p6 gt bm bs made w) := by
  have H := Av.mk h
  have c3 := h.tp.cell 0
  have l3 := h.tp.lt
  simp at c3
  have HO := Av.mk (fun dir => openR gt 1024 bm 0 made id dir w h.tab (by omega) (by omega))
  have hkey := Av.mk (key3 (id := (made : Int) + 1) (wf64 (by omega) (by omega)))
  clear h
  go_enter Try.func14, Try.ntmps14
  go_wp2_with fail
  refine (HO.out _).mono ?_
  rintro e w1 ⟨rfl, h1, k1⟩
  have H1 := Av.mk (show TabR w1 gt 1024 bm 0 (made + 1) from h1)
  have K1 := Av.mk k1
  have ngt3 := fun e => H.out.tp.ne_ H.out.tab.blk (by decide) (e : p3 = gt)
  have ngt6 := fun e => H.out.sp.ne_ H.out.tab.blk (by decide) (e : p6 = gt)
  have T1 := Av.mk (H.out.tp.keep k1 (by rintro (e | e); exact ngt3 e; exact H.out.tab.mapne H.out.tp e.symm))
  have S1 := Av.mk (H.out.sp.keep k1 (by rintro (e | e); exact ngt6 e; exact H.out.tab.mapne H.out.sp e.symm))
  obtain ⟨S, hs, hr⟩ := H.out.seen
  have O1 := Av.mk (ownsMap_keep hs k1 (by rintro (e | e); exact H.out.seen_ne H.out.tab.blk e; exact H.out.ne e))
  have hsz := hr.size
  have hhas : Maps.has S (iOf ((made : Int) + 1)) = false := by rw [hr.has]; simp; omega
  have HR := Av.mk hr
  have c6 := S1.out.cell 0
  have l6 := S1.out.lt
  simp at c6
  clear h1 k1 hs hr ngt3 ngt6 c3 l3
  go_wp2_with (first | (at_lookup; refine wpList_look decU encU decU_inv rfl _ _ 44 rfl 3 48 law3 Try.underlying44 () (zero48 _) rfl bs _ S rfl O1.out _ _ rfl hkey.out ?_) | (at_mapUpdate; refine wpList_store decU rfl _ _ _ 44 rfl 3 48 law3 Try.underlying44 bs _ S rfl (O1.out.alloc _) (by rw [hsz]; unfold maxLen; omega) _ _ _ rfl rfl hkey.out () rfl ?_; intro w5 hown5 hturn5; have HO5 := Av.mk hown5; have HT5 := Av.mk hturn5; clear hown5 hturn5))
  go_ret
  have ha := (Keep.refl (fun k => k = bs) w1).alloc (.cells #[] 48)
  have k5 : Keep (fun k => k = bs) w1 w5 := ha.turned HT5.out (fun _ => rfl)
  refine ⟨rfl, ⟨T1.out.keep k5 (fun e => map_ne_blk O1.out T1.out e.symm), S1.out.keep k5 (fun e => map_ne_blk O1.out S1.out e.symm), H1.out.keep' k5 (fun e => map_ne_blk O1.out H1.out.blk e.symm) (fun e => H.out.ne e.symm), ⟨_, ownsMap_tight HO5.out, HR.out.put (O1.out.tidy law3) _⟩, H.out.ne, H.out.b3, H.out.b6, H.out.bt, H.out.bb, H.out.bz⟩, (K1.out.mono ?_).trans (k5.mono ?_)⟩
  · rintro k _ (e | e)
    · exact .inl e
    · exact .inr (.inl e)
  · exact fun k _ e => .inr (.inr e)
end
end Go.Proofs.Ytjehcdedljckbaa
