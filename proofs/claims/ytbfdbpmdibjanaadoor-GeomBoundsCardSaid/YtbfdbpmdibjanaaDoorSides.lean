/- GeomSides: the law's own functions. No condition. -/
import Derived.Test.YtbfdbpmdibjanaaDoorN
import Derived.Test.YtbfdbpmdibjanaaDoorFm
namespace Go.Proofs.YtbfdbpmdibjanaaDoor
open Go Go.Eng
set_option maxRecDepth 100000
set_option linter.unusedSimpArgs false
set_option linter.unusedVariables false

set_option maxHeartbeats 0 in
theorem ends_ok (n f i j s : Nat) (h1 : 1 ≤ n) (h2 : n ≤ 32) (hf : f < 6) (hi : i < n) (hj : j < n) (hs : s < 4) (x : List Blk) :
    COk Tryd.prog 3 15 [I n, I (cellN n f i j), I s] (GG x) (.tup [(unitF (vecW n (endA n f i j s))).v, (unitF (vecW n (endB n f i j s))).v]) (GG x) := by
  refine lift ?_ rfl x
  obtain rfl | rfl | rfl | rfl : s = 0 ∨ s = 1 ∨ s = 2 ∨ s = 3 := by omega
  · show COk Tryd.prog 3 15 [I n, I (cellN n f i j), I 0] (GG []) _ _
    refine COk_quiet Tryd.f15 Tryd.func15 (by kernel_rfl) rfl ?_
    conv => whnf
    refine ⟨_, _, place_in n f i j h1 h2 hf hi hj _, ?_⟩
    conv => whnf
    refine ⟨_, corner_in n f (i := i + 1) (j := j) (by simp (disch := omega) only [wrap_id]; omega) (by simp (disch := omega) only [wrap_id]; omega) h1 h2 hf (by omega) (by omega) _, ?_⟩
    conv => whnf
    refine ⟨_, corner_in n f (i := i + 1) (j := j + 1) (by simp (disch := omega) only [wrap_id]; omega) (by simp (disch := omega) only [wrap_id]; omega) h1 h2 hf (by omega) (by omega) _, ?_⟩
    conv => whnf
    iterate 4
      refine ⟨rfl, ?_⟩
      conv => whnf
    rw [corner_dir h1 h2 (by omega) (by omega), corner_dir h1 h2 (by omega) (by omega)]
    exact ⟨rfl, _, rfl⟩
  · show COk Tryd.prog 3 15 [I n, I (cellN n f i j), I 1] (GG []) _ _
    refine COk_quiet Tryd.f15 Tryd.func15 (by kernel_rfl) rfl ?_
    conv => whnf
    refine ⟨_, _, place_in n f i j h1 h2 hf hi hj _, ?_⟩
    conv => whnf
    refine ⟨_, corner_in n f (i := i) (j := j + 1) (by simp (disch := omega) only [wrap_id]; omega) (by simp (disch := omega) only [wrap_id]; omega) h1 h2 hf (by omega) (by omega) _, ?_⟩
    conv => whnf
    refine ⟨_, corner_in n f (i := i + 1) (j := j + 1) (by simp (disch := omega) only [wrap_id]; omega) (by simp (disch := omega) only [wrap_id]; omega) h1 h2 hf (by omega) (by omega) _, ?_⟩
    conv => whnf
    iterate 4
      refine ⟨rfl, ?_⟩
      conv => whnf
    rw [corner_dir h1 h2 (by omega) (by omega), corner_dir h1 h2 (by omega) (by omega)]
    exact ⟨rfl, _, rfl⟩
  · show COk Tryd.prog 3 15 [I n, I (cellN n f i j), I 2] (GG []) _ _
    refine COk_quiet Tryd.f15 Tryd.func15 (by kernel_rfl) rfl ?_
    conv => whnf
    refine ⟨_, _, place_in n f i j h1 h2 hf hi hj _, ?_⟩
    conv => whnf
    refine ⟨_, corner_in n f (i := i) (j := j) (by simp (disch := omega) only [wrap_id]; omega) (by simp (disch := omega) only [wrap_id]; omega) h1 h2 hf (by omega) (by omega) _, ?_⟩
    conv => whnf
    refine ⟨_, corner_in n f (i := i) (j := j + 1) (by simp (disch := omega) only [wrap_id]; omega) (by simp (disch := omega) only [wrap_id]; omega) h1 h2 hf (by omega) (by omega) _, ?_⟩
    conv => whnf
    iterate 4
      refine ⟨rfl, ?_⟩
      conv => whnf
    rw [corner_dir h1 h2 (by omega) (by omega), corner_dir h1 h2 (by omega) (by omega)]
    exact ⟨rfl, _, rfl⟩
  · show COk Tryd.prog 3 15 [I n, I (cellN n f i j), I 3] (GG []) _ _
    refine COk_quiet Tryd.f15 Tryd.func15 (by kernel_rfl) rfl ?_
    conv => whnf
    refine ⟨_, _, place_in n f i j h1 h2 hf hi hj _, ?_⟩
    conv => whnf
    refine ⟨_, corner_in n f (i := i) (j := j) (by simp (disch := omega) only [wrap_id]; omega) (by simp (disch := omega) only [wrap_id]; omega) h1 h2 hf (by omega) (by omega) _, ?_⟩
    conv => whnf
    refine ⟨_, corner_in n f (i := i + 1) (j := j) (by simp (disch := omega) only [wrap_id]; omega) (by simp (disch := omega) only [wrap_id]; omega) h1 h2 hf (by omega) (by omega) _, ?_⟩
    conv => whnf
    iterate 4
      refine ⟨rfl, ?_⟩
      conv => whnf
    rw [corner_dir h1 h2 (by omega) (by omega), corner_dir h1 h2 (by omega) (by omega)]
    exact ⟨rfl, _, rfl⟩
end Go.Proofs.YtbfdbpmdibjanaaDoor
