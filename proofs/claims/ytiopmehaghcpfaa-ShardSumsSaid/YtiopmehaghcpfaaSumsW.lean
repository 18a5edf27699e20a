/- ShardSums: the walk. -/
import Derived.Test.YtiopmehaghcpfaaShard2
namespace Go.Proofs.Ytiopmehaghcpfaa
open Go.RowKit Go.Maps
attribute [local go_sem ↓] run_max_int run_min_int

set_option maxRecDepth 100000 in
set_option maxHeartbeats 2000000 in
theorem sums_walk (k : ByteArray) (many : Int) (w : World) (hk : k.size ≤ 9223372036854775807) : Calls Try.prog 6 #[.string k, .int .i64 many] w (RetB (.bool true) w) := by
  obtain ⟨n, hn, hn1, hn2⟩ : ∃ n : Nat, mn (mx many 1) 256 = (n : Int) ∧ 1 ≤ n ∧ n ≤ 256 := by
    refine ⟨(mn (mx many 1) 256).toNat, ?_, ?_, ?_⟩ <;> (unfold mn mx; split <;> split <;> omega)
  by_cases hbig : 500 < k.size
  · go_enter Try.func6, Try.ntmps6
    go_wp2_with fail
    refine (speaks14 w).mono ?_
    rintro e w1 ⟨rfl, hb1⟩
    have HB1 := Av.mk hb1
    clear hb1
    go_wp2
    go_ret
    exact ⟨rfl, HB1.out⟩
  have HN := Av.mk hn
  go_enter Try.func6, Try.ntmps6
  go_wp2_with fail
  refine (speaks14 w).mono ?_
  rintro e w1 ⟨rfl, hb1⟩
  have HB1 := Av.mk hb1
  clear hb1 hn
  go_wp2_with fail
  refine (snew_calls many 1 n HN.out hn1 hn2 w1.heap.size 0 (fun _ => 0) (fun _ => 0) (fun _ => .slice none 0 0) (fun _ => []) w1 (Fam.nil w1 _ _ _ _ _) (Nat.le_refl _)).mono ?_
  rintro e w2 ⟨v, G, V, rfl, hb, hS, hF, _⟩
  have HS := Av.mk hS
  have HB := Av.mk (below_then HB1.out HB1.out.size hb)
  clear hS hF hb
  generalize w1.heap.size = g at *
  go_wp2_with fail
  refine (Fnv.ref_calls k w2 (by omega)).mono ?_
  rintro e _ ⟨rfl, rfl⟩
  have hmn : mn (mx many 1) 256 = (n : Int) := HN.out
  have HO : ∀ W : World, Shb W g g n v (fun j => G (0 + j)) → Calls Try.prog 37 #[.pointer (some ⟨g, 0, none⟩), .string k] W (fun e w' => e = .returned (.int .i64 ((Fnv.sum (Fnv.bsOf k) % n : Nat) : Int)) ∧ ∃ m, w' = W.drewN m) := fun W hW => (of_calls g g n v _ k W hW (by omega) hn2 (by omega)).mono (fun _ _ h => h)
  have HM : ∀ W : World, Shb W g g n v (fun j => G (0 + j)) → Calls Try.prog 25 #[.pointer (some ⟨g, 0, none⟩)] W (fun e w' => e = .returned (.int .i64 n) ∧ ∃ m, w' = W.drewN m) := fun W hW => (many_calls g g n v _ W hW).mono (fun _ _ h => ⟨h.1, 0, h.2.symm⟩)
  have HZ : ∀ W : World, Calls Try.prog 36 #[.string k] W (fun e w' => e = .returned (.int .u32 (Fnv.sum (Fnv.bsOf k))) ∧ ∃ m, w' = W.drewN m) := fun W => (Fnv.sum_calls k W (by omega)).mono (fun _ _ h => Same.drew h)
  have HO := Av.mk HO
  have HM := Av.mk HM
  have hs := Fnv.sum_lt (Fnv.bsOf k)
  generalize Fnv.sum (Fnv.bsOf k) = s at *
  have hsn : s % n < n := Nat.mod_lt _ (by omega)
  have e1 : IntKind.u64.wrap (n : Int) = (n : Int) := by rw [IntKind.wrap_u64]; omega
  have e2 : wrap64 ((s : Int) % (n : Int)) = ((s % n : Nat) : Int) := by
    rw [← Int.natCast_emod]
    generalize s % n = q at *
    unfold wrap64
    omega
  go_wp2_with fail
  go_quiet (first | (go_at_call 36; refine Calls.quiet_of (HZ _)) | (go_at_call 25; refine Calls.quiet_of (HM.out _ ⟨HS.out.blk, HS.out.row⟩)) | (go_at_call 37; refine Calls.quiet_of (HO.out _ ⟨HS.out.blk, HS.out.row⟩)))
  go_wp2
  go_ret
  exact ⟨rfl, below_drewN HB.out _⟩
end Go.Proofs.Ytiopmehaghcpfaa
