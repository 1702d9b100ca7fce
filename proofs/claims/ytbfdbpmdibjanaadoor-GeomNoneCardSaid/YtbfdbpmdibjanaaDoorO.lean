/- GeomNone: the walk, with the callees' answers as variables. No condition. -/
import Derived.Test.YtbfdbpmdibjanaaDoorN
namespace Go.Proofs.YtbfdbpmdibjanaaDoor
open Go Go.Eng
set_option maxRecDepth 100000
set_option linter.unusedSimpArgs false
set_option linter.unusedVariables false

theorem cellsI_pos (side : Int) : 0 < cellsI side ↔ 1 ≤ side ∧ side ≤ 32 := by
  constructor
  · intro h
    rw [cellsI] at h
    split at h
    · assumption
    · omega
  · intro h
    obtain ⟨n, rfl⟩ : ∃ n : Nat, side = n := ⟨side.toNat, by omega⟩
    have h1 := cellsI_ne n (by omega) (by omega)
    have : 0 ≤ cellsI n := by
      rw [cellsI, if_pos h]
      have := Int.mul_nonneg (Int.natCast_nonneg n) (Int.natCast_nonneg n)
      omega
    omega
theorem same0_ok (x : List Blk) : COk Tryd.prog 3 16 [V3f 0 0 0, V3f 0 0 0] (GG x) (Bo true) (GG x) := by
  have := samev_ok ⟨0, 0, 0⟩ ⟨0, 0, 0⟩ x
  rwa [decide_eq_true rfl] at this
set_option maxHeartbeats 0 in
theorem none_of (side face i j cell over : Int) (v w : W) (is was : Bool) (a : Int) (l g : Nat)
    (hc : ∀ x, COk Tryd.prog 3 25 [I side, I face, I i, I j] (GG x) (.tup [v.v, Bo is]) (GG x))
    (hm : ∀ x, COk Tryd.prog 3 18 [I side, I cell] (GG x) (.tup [w.v, Bo was]) (GG x))
    (ha : ∀ x, COk Tryd.prog 3 22 [I side, I cell] (GG x) (I a) (GG x))
    (hl : ∀ x, COk Tryd.prog 3 17 [I side, I cell, I over] (GG x) (F l) (GG x))
    (hg : ∀ x, COk Tryd.prog 3 19 [I side, I cell, I over] (GG x) (F g) (GG x))
    (k1 : is = true ↔ ((1 ≤ side ∧ side ≤ 32) ∧ (0 ≤ face ∧ face < 6) ∧ (0 ≤ i ∧ i ≤ side) ∧ 0 ≤ j ∧ j ≤ side)) (k2 : is = false → v = ⟨0, 0, 0⟩)
    (k3 : was = true ↔ (0 ≤ cell ∧ cell < cellsI side)) (k4 : was = false → w = ⟨0, 0, 0⟩)
    (k5 : was = true → 1 ≤ a) (k6 : was = false → a = 0)
    (k7 : (was = true ∧ 0 ≤ over ∧ over < 4) → fgt (some l) (some 0) = true ∧ fgt (some g) (some 0) = true)
    (k8 : ¬ (was = true ∧ 0 ≤ over ∧ over < 4) → l = 0 ∧ g = 0) (x : List Blk) :
    COk Tryd.prog 3 5 [.agg [I side, I face, I i, I j, I cell, I over]] (GG x) (Bo true) (GG x) := by
  have hcs := cellsI_pos side
  refine lift ?_ rfl x
  refine COk_quiet Tryd.f5 Tryd.func5 (by kernel_rfl) rfl ?_
  conv => whnf
  refine ⟨_, _, awake_ok _, ?_⟩
  conv => whnf
  refine ⟨_, _, cells_ok _ _, ?_⟩
  conv => whnf
  refine ⟨_, _, hc _, ?_⟩
  conv => whnf
  cases is
  · obtain rfl := k2 rfl
    have k1' : ¬ ((1 ≤ side ∧ side ≤ 32) ∧ (0 ≤ face ∧ face < 6) ∧ (0 ≤ i ∧ i ≤ side) ∧ 0 ≤ j ∧ j ≤ side) := by simpa using k1
    cases was
    · obtain rfl := k4 rfl
      obtain rfl := k6 rfl
      obtain ⟨rfl, rfl⟩ := k8 (by simp)
      have k3' : ¬ (0 ≤ cell ∧ cell < cellsI side) := by simpa using k3
      refine br_di (fun h1 => ?_) (fun h1 => ?_) <;> conv => whnf
      all_goals try (refine br_di (fun h2 => ?_) (fun h2 => ?_) <;> conv => whnf)
      all_goals try (refine br_di (fun h3 => ?_) (fun h3 => ?_) <;> conv => whnf)
      all_goals try (refine br_di (fun h4 => ?_) (fun h4 => ?_) <;> conv => whnf)
      all_goals try (refine br_di (fun h5 => ?_) (fun h5 => ?_) <;> conv => whnf)
      all_goals try (refine br_di (fun h6 => ?_) (fun h6 => ?_) <;> conv => whnf)
      all_goals try rw [decide_eq_false (show ¬ j ≤ side by omega)]
      all_goals
        refine ⟨_, _, hm _, ?_⟩
        conv => whnf
        refine br_di (fun h => ?_) (fun h => ?_)
        · conv => whnf
          refine ⟨_, _, same0_ok _, ?_⟩
          conv => whnf
          rw [decide_eq_false (show ¬ cell < cellsI side by omega)]
          conv => whnf
          refine ⟨_, _, same0_ok _, ?_⟩
          conv => whnf
          refine ⟨_, _, hl _, ?_⟩
          conv => whnf
          refine ⟨_, _, hg _, ?_⟩
          conv => whnf
          refine ⟨_, _, ha _, ?_⟩
          conv => whnf
          refine ⟨_, _, bits_ok _ _, ?_⟩
          conv => whnf
          refine ⟨_, _, bits_ok _ _, ?_⟩
          conv => whnf
          exact ⟨rfl, _, rfl⟩
        · conv => whnf
          refine ⟨_, _, same0_ok _, ?_⟩
          conv => whnf
          refine ⟨_, _, same0_ok _, ?_⟩
          conv => whnf
          refine ⟨_, _, hl _, ?_⟩
          conv => whnf
          refine ⟨_, _, hg _, ?_⟩
          conv => whnf
          refine ⟨_, _, ha _, ?_⟩
          conv => whnf
          refine ⟨_, _, bits_ok _ _, ?_⟩
          conv => whnf
          refine ⟨_, _, bits_ok _ _, ?_⟩
          conv => whnf
          exact ⟨rfl, _, rfl⟩
    · have k3' : 0 ≤ cell ∧ cell < cellsI side := k3.mp rfl
      have k5' := k5 rfl
      by_cases ho : 0 ≤ over ∧ over < 4
      · have k7' := k7 ⟨rfl, ho⟩
        refine br_di (fun h1 => ?_) (fun h1 => ?_) <;> conv => whnf
        all_goals try (refine br_di (fun h2 => ?_) (fun h2 => ?_) <;> conv => whnf)
        all_goals try (refine br_di (fun h3 => ?_) (fun h3 => ?_) <;> conv => whnf)
        all_goals try (refine br_di (fun h4 => ?_) (fun h4 => ?_) <;> conv => whnf)
        all_goals try (refine br_di (fun h5 => ?_) (fun h5 => ?_) <;> conv => whnf)
        all_goals try (refine br_di (fun h6 => ?_) (fun h6 => ?_) <;> conv => whnf)
        all_goals try rw [decide_eq_false (show ¬ j ≤ side by omega)]
        all_goals
          refine ⟨_, _, hm _, ?_⟩
          conv => whnf
          refine br_d (by omega) ?_
          conv => whnf
          refine ⟨_, _, same0_ok _, ?_⟩
          conv => whnf
          rw [decide_eq_true (show cell < cellsI side by omega)]
          conv => whnf
          refine br_d (by omega) ?_
          conv => whnf
          refine ⟨_, _, hl _, ?_⟩
          conv => whnf
          refine ⟨_, _, hg _, ?_⟩
          conv => whnf
          refine ⟨_, _, ha _, ?_⟩
          conv => whnf
          rw [decide_eq_true (show over < 4 by omega)]
          refine br_yes (by rw [decide_eq_true (show a > 0 by omega)]; rfl) ?_
          conv => whnf
          refine br_yes (by rw [k7'.1]; rfl) ?_
          conv => whnf
          refine br_yes (by rw [k7'.2]; rfl) ?_
          conv => whnf
          exact ⟨rfl, _, rfl⟩
      · obtain ⟨rfl, rfl⟩ := k8 (by simpa using ho)
        refine br_di (fun h1 => ?_) (fun h1 => ?_) <;> conv => whnf
        all_goals try (refine br_di (fun h2 => ?_) (fun h2 => ?_) <;> conv => whnf)
        all_goals try (refine br_di (fun h3 => ?_) (fun h3 => ?_) <;> conv => whnf)
        all_goals try (refine br_di (fun h4 => ?_) (fun h4 => ?_) <;> conv => whnf)
        all_goals try (refine br_di (fun h5 => ?_) (fun h5 => ?_) <;> conv => whnf)
        all_goals try (refine br_di (fun h6 => ?_) (fun h6 => ?_) <;> conv => whnf)
        all_goals try rw [decide_eq_false (show ¬ j ≤ side by omega)]
        all_goals
          refine ⟨_, _, hm _, ?_⟩
          conv => whnf
          refine br_d (by omega) ?_
          conv => whnf
          refine ⟨_, _, same0_ok _, ?_⟩
          conv => whnf
          rw [decide_eq_true (show cell < cellsI side by omega)]
          conv => whnf
          refine br_di (fun h => ?_) (fun h => ?_)
          · conv => whnf
            refine ⟨_, _, hl _, ?_⟩
            conv => whnf
            refine ⟨_, _, hg _, ?_⟩
            conv => whnf
            refine ⟨_, _, ha _, ?_⟩
            conv => whnf
            rw [decide_eq_false (show ¬ over < 4 by omega)]
            refine br_yes (by rw [decide_eq_true (show a > 0 by omega)]; rfl) ?_
            conv => whnf
            refine ⟨_, _, bits_ok _ _, ?_⟩
            conv => whnf
            refine ⟨_, _, bits_ok _ _, ?_⟩
            conv => whnf
            exact ⟨rfl, _, rfl⟩
          · conv => whnf
            refine ⟨_, _, hl _, ?_⟩
            conv => whnf
            refine ⟨_, _, hg _, ?_⟩
            conv => whnf
            refine ⟨_, _, ha _, ?_⟩
            conv => whnf
            refine br_yes (by rw [decide_eq_true (show a > 0 by omega)]; rfl) ?_
            conv => whnf
            refine ⟨_, _, bits_ok _ _, ?_⟩
            conv => whnf
            refine ⟨_, _, bits_ok _ _, ?_⟩
            conv => whnf
            exact ⟨rfl, _, rfl⟩
  · have k1' : ((1 ≤ side ∧ side ≤ 32) ∧ (0 ≤ face ∧ face < 6) ∧ (0 ≤ i ∧ i ≤ side) ∧ 0 ≤ j ∧ j ≤ side) := k1.mp rfl
    cases was
    · obtain rfl := k4 rfl
      obtain rfl := k6 rfl
      obtain ⟨rfl, rfl⟩ := k8 (by simp)
      have k3' : ¬ (0 ≤ cell ∧ cell < cellsI side) := by simpa using k3
      iterate 6
        refine br_d (by omega) ?_
        conv => whnf
      rw [decide_eq_true (show j ≤ side by omega)]
      refine ⟨_, _, hm _, ?_⟩
      conv => whnf
      refine br_di (fun h => ?_) (fun h => ?_)
      · conv => whnf
        rw [decide_eq_false (show ¬ cell < cellsI side by omega)]
        conv => whnf
        refine ⟨_, _, same0_ok _, ?_⟩
        conv => whnf
        refine ⟨_, _, hl _, ?_⟩
        conv => whnf
        refine ⟨_, _, hg _, ?_⟩
        conv => whnf
        refine ⟨_, _, ha _, ?_⟩
        conv => whnf
        refine ⟨_, _, bits_ok _ _, ?_⟩
        conv => whnf
        refine ⟨_, _, bits_ok _ _, ?_⟩
        conv => whnf
        exact ⟨rfl, _, rfl⟩
      · conv => whnf
        refine ⟨_, _, same0_ok _, ?_⟩
        conv => whnf
        refine ⟨_, _, hl _, ?_⟩
        conv => whnf
        refine ⟨_, _, hg _, ?_⟩
        conv => whnf
        refine ⟨_, _, ha _, ?_⟩
        conv => whnf
        refine ⟨_, _, bits_ok _ _, ?_⟩
        conv => whnf
        refine ⟨_, _, bits_ok _ _, ?_⟩
        conv => whnf
        exact ⟨rfl, _, rfl⟩
    · have k3' : 0 ≤ cell ∧ cell < cellsI side := k3.mp rfl
      have k5' := k5 rfl
      by_cases ho : 0 ≤ over ∧ over < 4
      · have k7' := k7 ⟨rfl, ho⟩
        iterate 6
          refine br_d (by omega) ?_
          conv => whnf
        rw [decide_eq_true (show j ≤ side by omega)]
        refine ⟨_, _, hm _, ?_⟩
        conv => whnf
        refine br_d (by omega) ?_
        conv => whnf
        rw [decide_eq_true (show cell < cellsI side by omega)]
        conv => whnf
        refine br_d (by omega) ?_
        conv => whnf
        refine ⟨_, _, hl _, ?_⟩
        conv => whnf
        refine ⟨_, _, hg _, ?_⟩
        conv => whnf
        refine ⟨_, _, ha _, ?_⟩
        conv => whnf
        rw [decide_eq_true (show over < 4 by omega)]
        refine br_yes (by rw [decide_eq_true (show a > 0 by omega)]; rfl) ?_
        conv => whnf
        refine br_yes (by rw [k7'.1]; rfl) ?_
        conv => whnf
        refine br_yes (by rw [k7'.2]; rfl) ?_
        conv => whnf
        exact ⟨rfl, _, rfl⟩
      · obtain ⟨rfl, rfl⟩ := k8 (by simpa using ho)
        iterate 6
          refine br_d (by omega) ?_
          conv => whnf
        rw [decide_eq_true (show j ≤ side by omega)]
        refine ⟨_, _, hm _, ?_⟩
        conv => whnf
        refine br_d (by omega) ?_
        conv => whnf
        rw [decide_eq_true (show cell < cellsI side by omega)]
        conv => whnf
        refine br_di (fun h => ?_) (fun h => ?_)
        · conv => whnf
          refine ⟨_, _, hl _, ?_⟩
          conv => whnf
          refine ⟨_, _, hg _, ?_⟩
          conv => whnf
          refine ⟨_, _, ha _, ?_⟩
          conv => whnf
          rw [decide_eq_false (show ¬ over < 4 by omega)]
          refine br_yes (by rw [decide_eq_true (show a > 0 by omega)]; rfl) ?_
          conv => whnf
          refine ⟨_, _, bits_ok _ _, ?_⟩
          conv => whnf
          refine ⟨_, _, bits_ok _ _, ?_⟩
          conv => whnf
          exact ⟨rfl, _, rfl⟩
        · conv => whnf
          refine ⟨_, _, hl _, ?_⟩
          conv => whnf
          refine ⟨_, _, hg _, ?_⟩
          conv => whnf
          refine ⟨_, _, ha _, ?_⟩
          conv => whnf
          refine br_yes (by rw [decide_eq_true (show a > 0 by omega)]; rfl) ?_
          conv => whnf
          refine ⟨_, _, bits_ok _ _, ?_⟩
          conv => whnf
          refine ⟨_, _, bits_ok _ _, ?_⟩
          conv => whnf
          exact ⟨rfl, _, rfl⟩
end Go.Proofs.YtbfdbpmdibjanaaDoor
