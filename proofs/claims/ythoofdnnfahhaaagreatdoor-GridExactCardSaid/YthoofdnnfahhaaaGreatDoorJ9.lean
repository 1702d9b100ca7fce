/- What the statements of layer 9 ask first. No condition. -/
import Derived.Test.YthoofdnnfahhaaaGreatDoorJ
namespace Go.Proofs.YthoofdnnfahhaaaGreatDoor
open Go Go.Eng
set_option maxRecDepth 100000
set_option linter.unusedSimpArgs false
set_option linter.unusedVariables false

set_option maxHeartbeats 0 in
theorem awake09_ok (x : List Blk) : COk Tryz.prog 3 25 [] (GG x) (Bo true) (GG x) := by
  obtain ⟨b, M, hnew, hN, y, hM⟩ := new_shut 1 (by omega) (by omega) x
  have h33 := new_no 33 (by omega) M
  have hed := edge_ok hN 1 _ edges1.1
  obtain ⟨ar, har, har1⟩ : ∃ ar : Int, areaC 1 0 = ar ∧ 1 ≤ ar := ⟨_, rfl, areaT_pos _ _ _ _⟩
  refine COk_quiet Tryz.f25 Tryz.func25 (by kernel_rfl) rfl ?_
  conv => whnf
  refine ⟨_, _, hnew, ?_⟩
  conv => whnf
  refine ⟨_, _, h33, ?_⟩
  conv => whnf
  refine ⟨_, _, hed, ?_⟩
  conv => whnf
  refine addB_of ?_
  conv => whnf
  rw [getB_last]
  conv => whnf
  refine setB_of ?_
  conv => whnf
  refine ⟨_, _, around_ok (hN.more _) ((1 : Nat) : Int) ((2 : Nat) : Int) 0 _ num1 edges1.2, ?_⟩
  conv => whnf
  refine ⟨_, _, behind_ok (hN.more _) 0 _ edges1.2, ?_⟩
  conv => whnf
  rw [getB_last]
  conv => whnf
  refine ⟨true, ⟨by kernel_rfl, by kernel_rfl⟩, ?_⟩
  conv => whnf
  refine ⟨_, _, gcells_ok (hN.more _), ?_⟩
  conv => whnf
  refine ⟨_, _, gedges_ok (hN.more _), ?_⟩
  rw [len1]
  conv => whnf
  refine ⟨_, _, area_ok (hN.more _) 0 (by decide), ?_⟩
  rw [har]
  conv => whnf
  subst hM
  exact ⟨congrArg V.bool (decide_eq_true (by omega)), _, List.append_assoc (GG x) y _⟩
end Go.Proofs.YthoofdnnfahhaaaGreatDoor
