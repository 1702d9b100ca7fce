/- Package cube: Beside. No condition. -/
import Derived.Test.YtgoljofmbidkfaaGreatDoorD
namespace Go.Proofs.YtgoljofmbidkfaaGreatDoor
open Go Go.Eng
set_option maxRecDepth 100000
set_option linter.unusedSimpArgs false
set_option linter.unusedVariables false

/-- Over the edge of face f at its side s: the face there, its side, and whether the cells run the other way. -/
def nbT : Nat → Nat → Nat × Nat × Bool
  | 0, 0 => (1, 2, false) | 0, 1 => (4, 3, false) | 0, 2 => (3, 0, false) | 0, _ => (5, 1, false)
  | 1, 0 => (2, 2, false) | 1, 1 => (4, 0, false) | 1, 2 => (0, 0, false) | 1, _ => (5, 0, true)
  | 2, 0 => (3, 2, false) | 2, 1 => (4, 1, true) | 2, 2 => (1, 0, false) | 2, _ => (5, 3, true)
  | 3, 0 => (0, 2, false) | 3, 1 => (4, 2, true) | 3, 2 => (2, 0, false) | 3, _ => (5, 2, false)
  | 4, 0 => (1, 1, false) | 4, 1 => (2, 1, true) | 4, 2 => (3, 1, true) | 4, _ => (0, 1, false)
  | _, 0 => (1, 3, true) | _, 1 => (0, 3, false) | _, 2 => (3, 3, false) | _, _ => (2, 3, true)
def alongS (i j : Nat) : Nat → Nat
  | 0 => j | 1 => i | 2 => j | _ => i
def putS (n k : Nat) : Nat → Nat × Nat
  | 0 => (n - 1, k) | 1 => (k, n - 1) | 2 => (0, k) | _ => (k, 0)
def flipK (n k : Nat) : Bool → Nat
  | true => n - 1 - k | false => k
/-- Over the face's edge. -/
def nbE (n f i j s : Nat) : Nat × Nat × Nat × Nat :=
  ((nbT f s).1, (putS n (flipK n (alongS i j s) (nbT f s).2.2) (nbT f s).2.1).1, (putS n (flipK n (alongS i j s) (nbT f s).2.2) (nbT f s).2.1).2, (nbT f s).2.1)
/-- The cell beside: face, i, j, the side that lies there. -/
def nb (n f i j : Nat) : Nat → Nat × Nat × Nat × Nat
  | 0 => if i + 1 < n then (f, i + 1, j, 2) else nbE n f i j 0
  | 1 => if j + 1 < n then (f, i, j + 1, 3) else nbE n f i j 1
  | 2 => if 0 < i then (f, i - 1, j, 0) else nbE n f i j 2
  | _ => if 0 < j then (f, i, j - 1, 1) else nbE n f i j 3
abbrev cellQ (n : Nat) (q : Nat × Nat × Nat × Nat) : Nat := cellN n q.1 q.2.1 q.2.2.1

theorem tup2_congr {a b c d : Int} (h : a = c) (h' : b = d) : V.tup [I a, I b] = V.tup [I c, I d] := by subst h h'; rfl
theorem cellN_congr {n f i j i' j' : Nat} (h : i = i') (h' : j = j') : ((cellN n f i j : Nat) : Int) = (cellN n f i' j' : Nat) := by subst h h'; rfl
theorem beside_no (side cell over : Int) (h : ¬ ((0 ≤ cell ∧ cell < cellsI side) ∧ 0 ≤ over ∧ over < 4)) (hs : (0 ≤ cell ∧ cell < cellsI side) → ∃ n f i j : Nat, side = n ∧ cell = cellN n f i j ∧ 1 ≤ n ∧ n ≤ 32 ∧ f < 6 ∧ i < n ∧ j < n) (m : List Blk) :
    COk Tryz.prog 3 53 [I side, I cell, I over] m (.tup [I (-1), I 0]) m := by
  refine COk_quiet Tryz.f53 Tryz.func53 (by kernel_rfl) rfl ?_
  conv => whnf
  by_cases hc : 0 ≤ cell ∧ cell < cellsI side
  · obtain ⟨n, f, i, j, rfl, rfl, h1, h2, h3, h4, h5⟩ := hs hc
    refine ⟨_, _, place_in n f i j h1 h2 h3 h4 h5 _, ?_⟩
    conv => whnf
    refine br_di (fun h6 => ?_) (fun h6 => ?_) <;> conv => whnf
    · exact ⟨rfl, [], by simp⟩
    refine br_di (fun h7 => ?_) (fun h7 => ?_) <;> conv => whnf
    · exact ⟨rfl, [], by simp⟩
    omega
  · refine ⟨_, _, place_no _ _ hc _, ?_⟩
    conv => whnf
    exact ⟨rfl, [], by simp⟩
theorem beside_mid (n f i j : Nat) (s f' i' j' b : Nat) (hn : 1 ≤ n) (hn' : n ≤ 32) (hf : f < 6) (hi : i < n) (hj : j < n) (hs : s < 4)
    (h : (s = 0 ∧ i + 1 < n ∧ i' = i + 1 ∧ j' = j ∧ b = 2) ∨ (s = 1 ∧ j + 1 < n ∧ i' = i ∧ j' = j + 1 ∧ b = 3) ∨ (s = 2 ∧ 0 < i ∧ i = i' + 1 ∧ j' = j ∧ b = 0) ∨ (s = 3 ∧ 0 < j ∧ i' = i ∧ j = j' + 1 ∧ b = 1)) (x : List Blk) :
    COk Tryz.prog 3 53 [I n, I (cellN n f i j), I s] (GG x) (.tup [I (cellN n f i' j'), I b]) (GG x) := by
  refine lift ?_ rfl x
  refine COk_quiet Tryz.f53 Tryz.func53 (by kernel_rfl) rfl ?_
  conv => whnf
  refine ⟨_, _, place_in n f i j hn hn' hf hi hj _, ?_⟩
  rcases h with ⟨rfl, h, e1, e2, rfl⟩ | ⟨rfl, h, e1, e2, rfl⟩ | ⟨rfl, h, e1, e2, rfl⟩ | ⟨rfl, h, e1, e2, rfl⟩
  all_goals
    conv => whnf
    refine ⟨_, cell_at n f i' j' (by simp (disch := omega) only [wrap_id]; omega) (by simp (disch := omega) only [wrap_id]; omega) hn hn' hf (by omega) (by omega) _, ?_⟩
    conv => whnf
    exact ⟨rfl, _, rfl⟩
set_option maxHeartbeats 0 in
theorem beside_edge (n f i j s : Nat) (hn : 1 ≤ n) (hn' : n ≤ 32) (hf : f < 6) (hi : i < n) (hj : j < n) (hs : s < 4)
    (h : (s = 0 ∧ i + 1 = n) ∨ (s = 1 ∧ j + 1 = n) ∨ (s = 2 ∧ i = 0) ∨ (s = 3 ∧ j = 0)) (x : List Blk) :
    COk Tryz.prog 3 53 [I n, I (cellN n f i j), I s] (GG x) (.tup [I (cellQ n (nbE n f i j s)), I (nbE n f i j s).2.2.2]) (GG x) := by
  refine lift ?_ rfl x
  refine COk_quiet Tryz.f53 Tryz.func53 (by kernel_rfl) rfl ?_
  conv => whnf
  refine ⟨_, _, place_in n f i j hn hn' hf hi hj _, ?_⟩
  obtain rfl | rfl | rfl | rfl | rfl | rfl : f = 0 ∨ f = 1 ∨ f = 2 ∨ f = 3 ∨ f = 4 ∨ f = 5 := by omega
  all_goals
    rcases h with ⟨rfl, h⟩ | ⟨rfl, h⟩ | ⟨rfl, h⟩ | ⟨rfl, h⟩
    all_goals
      conv => whnf
      refine ⟨_, cell_no _ _ _ _ (by simp (disch := omega) only [wrap_id]; omega) _, ?_⟩
      conv => whnf
      first | refine ⟨_, _, out0_ok _ _ _ _ _ _ _ _ _ _, ?_⟩ | refine ⟨_, _, out1_ok _ _ _ _ _ _ _ _ _ _, ?_⟩ | refine ⟨_, _, out2_ok _ _ _ _ _ _ _ _ _ _, ?_⟩ | refine ⟨_, _, out3_ok _ _ _ _ _ _ _ _ _ _, ?_⟩
      conv => whnf
      refine ⟨_, _, face3_ok _ _ _ _ (by rfl) _, ?_⟩
      conv => whnf
      refine ⟨_, middle_ok _ _ _ _ (by omega) (by omega) (by omega) (by omega) _, ?_⟩
      conv => whnf
      first | refine ⟨_, out0_ok _ _ _ _ _ _ _ _ _ _, ?_⟩ | refine ⟨_, out1_ok _ _ _ _ _ _ _ _ _ _, ?_⟩ | refine ⟨_, out2_ok _ _ _ _ _ _ _ _ _ _, ?_⟩ | refine ⟨_, out3_ok _ _ _ _ _ _ _ _ _ _, ?_⟩
      conv => whnf
      refine ⟨_, plus_ok _ _ _ _ _ _ _, ?_⟩
      conv => whnf
      refine ⟨_, dot_ok _ _ _ _ _ _ _, ?_⟩
      conv => whnf
      refine ⟨_, index_ok _ _ (by omega) (by simp (disch := omega) only [wrap_id, dot_lin]; omega) _, ?_⟩
      conv => whnf
      refine ⟨_, dot_ok _ _ _ _ _ _ _, ?_⟩
      conv => whnf
      refine ⟨_, index_ok _ _ (by omega) (by simp (disch := omega) only [wrap_id, dot_lin]; omega) _, ?_⟩
      conv => whnf
      refine ⟨_, cell_to _ _ (idx_lt _ _ (by omega)) (idx_lt _ _ (by omega)) hn' (by omega) _, ?_⟩
      conv => whnf
      repeat
        refine loop_round ?_
        conv => whnf
        first | refine ⟨_, out0_ok _ _ _ _ _ _ _ _ _ _, ?_⟩ | refine ⟨_, out1_ok _ _ _ _ _ _ _ _ _ _, ?_⟩ | refine ⟨_, out2_ok _ _ _ _ _ _ _ _ _ _, ?_⟩ | refine ⟨_, out3_ok _ _ _ _ _ _ _ _ _ _, ?_⟩
        conv => whnf
      refine ⟨tup2_congr (cellN_congr ?_ ?_) (by rfl), _, rfl⟩
      all_goals
        simp (disch := omega) only [wrap_id, dot_lin]
        simp only [nbE, nbT, putS, flipK, alongS, idxI]
        split <;> split <;> omega
theorem beside_ok (n f i j s : Nat) (hn : 1 ≤ n) (hn' : n ≤ 32) (hf : f < 6) (hi : i < n) (hj : j < n) (hs : s < 4) (x : List Blk) :
    COk Tryz.prog 3 53 [I n, I (cellN n f i j), I s] (GG x) (.tup [I (cellQ n (nb n f i j s)), I (nb n f i j s).2.2.2]) (GG x) := by
  obtain rfl | rfl | rfl | rfl : s = 0 ∨ s = 1 ∨ s = 2 ∨ s = 3 := by omega
  · by_cases h : i + 1 < n
    · rw [show nb n f i j 0 = (f, i + 1, j, 2) from if_pos h]
      exact beside_mid n f i j _ f _ _ _ hn hn' hf hi hj (by omega) (.inl ⟨rfl, h, rfl, rfl, rfl⟩) x
    · rw [show nb n f i j 0 = nbE n f i j 0 from if_neg h]
      exact beside_edge n f i j _ hn hn' hf hi hj (by omega) (by omega) x
  · by_cases h : j + 1 < n
    · rw [show nb n f i j 1 = (f, i, j + 1, 3) from if_pos h]
      exact beside_mid n f i j _ f _ _ _ hn hn' hf hi hj (by omega) (.inr (.inl ⟨rfl, h, rfl, rfl, rfl⟩)) x
    · rw [show nb n f i j 1 = nbE n f i j 1 from if_neg h]
      exact beside_edge n f i j _ hn hn' hf hi hj (by omega) (by omega) x
  · by_cases h : 0 < i
    · rw [show nb n f i j 2 = (f, i - 1, j, 0) from if_pos h]
      exact beside_mid n f i j _ f _ _ _ hn hn' hf hi hj (by omega) (.inr (.inr (.inl ⟨rfl, h, (by omega : i = i - 1 + 1), rfl, rfl⟩))) x
    · rw [show nb n f i j 2 = nbE n f i j 2 from if_neg h]
      exact beside_edge n f i j _ hn hn' hf hi hj (by omega) (by omega) x
  · by_cases h : 0 < j
    · rw [show nb n f i j 3 = (f, i, j - 1, 1) from if_pos h]
      exact beside_mid n f i j _ f _ _ _ hn hn' hf hi hj (by omega) (.inr (.inr (.inr ⟨rfl, h, rfl, (by omega : j = j - 1 + 1), rfl⟩))) x
    · rw [show nb n f i j 3 = nbE n f i j 3 from if_neg h]
      exact beside_edge n f i j _ hn hn' hf hi hj (by omega) (by omega) x
end Go.Proofs.YtgoljofmbidkfaaGreatDoor
