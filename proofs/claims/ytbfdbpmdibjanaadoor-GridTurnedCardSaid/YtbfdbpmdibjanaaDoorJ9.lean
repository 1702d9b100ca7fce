/- What the statements of layer 9 ask first. No condition. -/
import Derived.Test.YtbfdbpmdibjanaaDoorJ
namespace Go.Proofs.YtbfdbpmdibjanaaDoor
open Go Go.Eng
set_option maxRecDepth 100000
set_option linter.unusedSimpArgs false
set_option linter.unusedVariables false

theorem within_ok (k : Int) (s : Nat) (h1 : 1 ≤ s) (h2 : s < 9223372036854775808) : ∃ r : Nat, r < s ∧ ∀ m, COk Tryd.prog 3 30 [I k, I s] m (I r) m := by
  obtain ⟨a, ha, _⟩ := u64_nat k
  refine ⟨a % s, Nat.mod_lt _ (by omega), fun m => ?_⟩
  refine COk_quiet Tryd.f30 Tryd.func30 (by kernel_rfl) rfl ?_
  conv => whnf
  rw [ha]
  conv => whnf
  rw [wrap_u (show (0 : Int) ≤ s by omega) (by omega)]
  refine br_yes (show ((s : Int) != 0) = true by simp; omega) ?_
  conv => whnf
  refine ⟨?_, [], by simp⟩
  show I (IntKind.i64.wrap ((a : Int).tmod s)) = _
  have hm := Nat.mod_lt a (show 0 < s by omega)
  rw [show (a : Int).tmod s = ((a % s : Nat) : Int) from (Int.ofNat_tmod a s).symm, wrap_id (by omega) (by omega)]
theorem net_at (k : Int) : ∃ n : Nat, 1 ≤ n ∧ n ≤ 32 ∧ ∀ x, scM (GG x).length (GG x) = true → ∃ b M, COk Tryd.prog 3 29 [I k] (GG x) (.ptr (b + 1) 0) M ∧ Net M b n ∧ scM M.length M = true ∧ ∃ y, M = GG (x ++ y) := by
  obtain ⟨r, hr, hw⟩ := within_ok k 32 (by decide) (by decide)
  refine ⟨1 + r, by omega, by omega, fun x hx => ?_⟩
  obtain ⟨b, M, hnew, hN, hsc, y, rfl⟩ := new_shut_sc (1 + r) (by omega) (by omega) x hx
  refine ⟨b, _, ?_, hN, hsc, y, rfl⟩
  refine COk_of_ev Tryd.f29 Tryd.func29 (by kernel_rfl) (by simp) ?_ (.inr hsc) ?_
  · have := hN.lt
    simp [V.sc] at this ⊢; omega
  conv => whnf
  refine ⟨_, _, hw _, ?_⟩
  conv => whnf
  rw [show IntKind.i64.wrap (1 + (r : Int)) = ((1 + r : Nat) : Int) by rw [wrap_id (by omega) (by omega)]; omega]
  refine ⟨_, _, hnew, ?_⟩
  conv => whnf
  exact ⟨rfl, [], by simp⟩
set_option maxHeartbeats 0 in
theorem awake09_ok (x : List Blk) : COk Tryd.prog 3 28 [] (GG x) (Bo true) (GG x) := by
  obtain ⟨b, M, hnew, hN, y, hM⟩ := new_shut 1 (by omega) (by omega) x
  have h33 := new_no 33 (by omega) M
  have hed := edge_ok hN 1 _ edges1.1
  obtain ⟨ar, har, har1⟩ : ∃ ar : Int, areaC 1 0 = ar ∧ 1 ≤ ar := ⟨_, rfl, areaT_pos _ _ _ _⟩
  refine COk_quiet Tryd.f28 Tryd.func28 (by kernel_rfl) rfl ?_
  conv => whnf
  refine ⟨_, _, hnew, ?_⟩
  conv => whnf
  refine ⟨_, _, h33, ?_⟩
  conv => whnf
  refine ⟨_, _, hed, ?_⟩
  conv => whnf
  refine addB_of ?_
  conv => whnf
  rw [getB_last]
  conv => whnf
  refine setB_of ?_
  conv => whnf
  refine ⟨_, _, around_ok (hN.more _) ((1 : Nat) : Int) ((2 : Nat) : Int) 0 _ num1 edges1.2, ?_⟩
  conv => whnf
  refine ⟨_, _, behind_ok (hN.more _) 0 _ edges1.2, ?_⟩
  conv => whnf
  rw [getB_last]
  conv => whnf
  refine ⟨true, ⟨by kernel_rfl, by kernel_rfl⟩, ?_⟩
  conv => whnf
  refine ⟨_, _, gcells_ok (hN.more _), ?_⟩
  conv => whnf
  refine ⟨_, _, gedges_ok (hN.more _), ?_⟩
  rw [len1]
  conv => whnf
  refine ⟨_, _, area_ok (hN.more _) 0 (by decide), ?_⟩
  rw [har]
  conv => whnf
  subst hM
  exact ⟨congrArg V.bool (decide_eq_true (by omega)), _, List.append_assoc (GG x) y _⟩
end Go.Proofs.YtbfdbpmdibjanaaDoor
