/- conv.Clamp and flux.Quanta: what they answer. No condition. -/
import Derived.Test.YtgoljofmbidkfaaGreatDoorLv
import Derived.Test.YtgoljofmbidkfaaGreatDoorFo
import Derived.Test.YtgoljofmbidkfaaGreatDoorU
namespace Go.Proofs.YtgoljofmbidkfaaGreatDoor
open Go Go.Eng
set_option maxRecDepth 100000
set_option linter.unusedSimpArgs false
set_option linter.unusedVariables false

theorem isnanO_ok (o : Option Nat) (m : List Blk) : COk Tryz.prog 3 143 [.fl o] m (Bo (fne o o)) m := by
  refine COk_quiet Tryz.f143 Tryz.func143 (by kernel_rfl) rfl ?_
  conv => whnf
  exact ⟨rfl, [], by simp⟩
abbrev q52 : Int := 4503599627370496
/-- A size as a whole number, at most 2^52. -/
def sizeI (a : Nat) : Int := if flt (some a) (some wholeB) = true then (if IntKind.i64.wrap (nearR a (floorB a) ((fToI (some (floorB a)) .u64).getD 0)) < q52 then IntKind.i64.wrap (nearR a (floorB a) ((fToI (some (floorB a)) .u64).getD 0)) else q52) else q52
def clampF (o : Option Nat) : Int := match o with
  | none => 0
  | some b => if fne (some b) (some b) = true then 0 else if flt (some b) (some 0) = true then IntKind.i64.wrap (0 - sizeI (absB b)) else sizeI (absB b)
set_option maxHeartbeats 0 in
theorem clamp_ok (b : Nat) (hb : b < 2 ^ 64) (m : List Blk) : COk Tryz.prog 3 105 [F b, .int .i64 q52] m (.int .i64 (clampF (some b))) m := by
  unfold clampF
  by_cases h : fne (some b) (some b) = true
  · simp only [if_pos h]
    have hn := isnanO_ok (some b) m
    rw [h] at hn
    refine COk_quiet Tryz.f105 Tryz.func105 (by kernel_rfl) rfl ?_
    (conv => whnf); repeat (refine ⟨_, _, hn, ?_⟩; conv => whnf)
    exact ⟨rfl, [], by simp⟩
  · have h0 := Bool.eq_false_iff.2 h
    simp only [if_neg h]
    have hn := isnanO_ok (some b) m
    rw [h0] at hn
    unfold sizeI
    by_cases hl : flt (some (absB b)) (some wholeB) = true
    · obtain ⟨g1, n, g2⟩ := floor_whole (absB_lt b hb).1 hl
      have e : (fToI (some (floorB (absB b))) .u64).getD 0 = (n : Int) := by rw [g2]; rfl
      simp only [if_pos hl, e]
      have hne := near_ok (absB b) n g1 g2
      by_cases hs : flt (some b) (some 0) = true
      · simp only [if_pos hs]
        refine COk_quiet Tryz.f105 Tryz.func105 (by kernel_rfl) rfl ?_
        (conv => whnf); repeat ((first | refine ⟨_, _, hn, ?_⟩ | refine ⟨_, _, abs_ok _ _, ?_⟩ | refine br_yes hl ?_ | refine ⟨_, _, hne _, ?_⟩ | refine br_yes hs ?_); conv => whnf)
        exact ⟨by rw [show (if (0 : Int) > q52 then (0 : Int) else q52) = q52 from by decide], [], by simp⟩
      · have hs0 := Bool.eq_false_iff.2 hs
        simp only [if_neg hs]
        refine COk_quiet Tryz.f105 Tryz.func105 (by kernel_rfl) rfl ?_
        (conv => whnf); repeat ((first | refine ⟨_, _, hn, ?_⟩ | refine ⟨_, _, abs_ok _ _, ?_⟩ | refine br_yes hl ?_ | refine ⟨_, _, hne _, ?_⟩ | refine br_no hs0 ?_); conv => whnf)
        exact ⟨by rw [show (if (0 : Int) > q52 then (0 : Int) else q52) = q52 from by decide], [], by simp⟩
    · have hl0 := Bool.eq_false_iff.2 hl
      simp only [if_neg hl]
      by_cases hs : flt (some b) (some 0) = true
      · simp only [if_pos hs]
        refine COk_quiet Tryz.f105 Tryz.func105 (by kernel_rfl) rfl ?_
        (conv => whnf); repeat ((first | refine ⟨_, _, hn, ?_⟩ | refine ⟨_, _, abs_ok _ _, ?_⟩ | refine br_no hl0 ?_ | refine br_yes hs ?_); conv => whnf)
        exact ⟨by rw [show (if (0 : Int) > q52 then (0 : Int) else q52) = q52 from by decide], [], by simp⟩
      · have hs0 := Bool.eq_false_iff.2 hs
        simp only [if_neg hs]
        refine COk_quiet Tryz.f105 Tryz.func105 (by kernel_rfl) rfl ?_
        (conv => whnf); repeat ((first | refine ⟨_, _, hn, ?_⟩ | refine ⟨_, _, abs_ok _ _, ?_⟩ | refine br_no hl0 ?_ | refine br_no hs0 ?_); conv => whnf)
        exact ⟨by rw [show (if (0 : Int) > q52 then (0 : Int) else q52) = q52 from by decide], [], by simp⟩
theorem clampO_ok (o : Option Nat) (hb : ∀ b, o = some b → b < 2 ^ 64) (m : List Blk) : COk Tryz.prog 3 105 [.fl o, .int .i64 q52] m (.int .i64 (clampF o)) m := by
  cases o with
  | none =>
    refine COk_bits [] (bs := [.int .i64 q52]) (fun b hn => ?_)
    have h := clamp_ok b (by have := hn.1; omega) m
    have e : clampF (some b) = clampF none := by
      unfold clampF
      simp only
      rw [if_pos]
      unfold fne
      rw [(nan_cmp hn _).1]; rfl
    rwa [e] at h
  | some b => exact clamp_ok b (hb b rfl) m
/-- The sum of numbers that pass: speed by depth by length by time, in quanta. -/
def quantO (u d l t : Nat) : Option Nat := fmul (fmul (fmul (fmul (some u) (some d)) (some l)) (some t)) (some 4742290407621132288)
def quantF (u d l t : Nat) : Int := clampF (quantO u d l t)
end Go.Proofs.YtgoljofmbidkfaaGreatDoor
