/- The reference's corners, middles, lengths, gaps and areas. No condition. -/
import Derived.Test.YthoofdnnfahhaaaGreatDoorR9
import Derived.Test.YthoofdnnfahhaaaGreatDoorR5
import Derived.Test.YthoofdnnfahhaaaGreatDoorR8
namespace Go.Proofs.YthoofdnnfahhaaaGreatDoor
open Go Go.Eng Ieee
set_option maxRecDepth 100000
set_option linter.unusedSimpArgs false
set_option linter.unusedVariables false

theorem rratio_ok (k n : Int) (hk : in64 k) (hn : in64 n) (m : List Blk) : COk Tryz.prog 3 68 [I k, I n] m (.fl (ratioO k n)) m := by
  have h1 := rfromint_ok k hk
  have h2 := rfromint_ok n hn
  refine COk_quiet Tryz.f68 Tryz.func68 (by kernel_rfl) rfl ?_
  (conv => whnf); repeat ((first | refine ⟨_, _, h1 _, ?_⟩ | refine ⟨_, _, h2 _, ?_⟩); conv => whnf)
  exact ⟨rfl, [], by simp⟩
theorem rcorner_in (n f : Nat) {a b : Int} {i j : Nat} (ha : a = i) (hb : b = j) (h1 : 1 ≤ n) (h2 : n ≤ 32) (hf : f < 6) (hi : i ≤ n) (hj : j ≤ n) (x : List Blk) : COk Tryz.prog 3 14 [I n, I f, I a, I b] (GG x) (.tup [(cornerF n f i j).v, Bo true]) (GG x) := by
  refine lift ?_ rfl x
  subst ha hb
  have w1 : IntKind.i64.wrap (IntKind.i64.wrap (2 * (i : Int)) - n) = 2 * i - n := by simp (disch := omega) only [wrap_id]
  have w2 : IntKind.i64.wrap (IntKind.i64.wrap (2 * (j : Int)) - n) = 2 * j - n := by simp (disch := omega) only [wrap_id]
  have r1 := rratio_ok (2 * i - n) n ⟨by omega, by omega⟩ ⟨by omega, by omega⟩
  have r2 := rratio_ok (2 * j - n) n ⟨by omega, by omega⟩ ⟨by omega, by omega⟩
  have hp := rpoint_ok f hf (p := ratioO (2 * i - n) n) (q := ratioO (2 * j - n) n) (fdiv_lt _ _) (fdiv_lt _ _)
  rw [← w1] at r1
  rw [← w2] at r2
  rw [← w1, ← w2] at hp
  unfold cornerF
  rw [← w1, ← w2]
  refine COk_quiet Tryz.f14 Tryz.func14 (by kernel_rfl) rfl ?_
  (conv => whnf); repeat ((first | refine ⟨_, _, r1 _, ?_⟩ | refine ⟨_, _, r2 _, ?_⟩ | refine ⟨_, _, hp _, ?_⟩ | refine br_nd (by omega) ?_); conv => whnf)
  exact ⟨rfl, _, rfl⟩
theorem rcorner_no (side face i j : Int) (h : ¬ ((1 ≤ side ∧ side ≤ 32) ∧ (0 ≤ face ∧ face < 6) ∧ (0 ≤ i ∧ i ≤ side) ∧ 0 ≤ j ∧ j ≤ side)) (x : List Blk) : COk Tryz.prog 3 14 [I side, I face, I i, I j] (GG x) (.tup [V3f 0 0 0, Bo false]) (GG x) := by
  refine lift ?_ rfl x
  refine COk_quiet Tryz.f14 Tryz.func14 (by kernel_rfl) rfl ?_
  conv => whnf
  refine br_di (fun k0 => ?_) (fun k0 => ?_) <;> conv => whnf
  · exact ⟨rfl, _, rfl⟩
  refine br_di (fun k1 => ?_) (fun k1 => ?_) <;> conv => whnf
  · exact ⟨rfl, _, rfl⟩
  refine br_di (fun k2 => ?_) (fun k2 => ?_) <;> conv => whnf
  · exact ⟨rfl, _, rfl⟩
  refine br_di (fun k3 => ?_) (fun k3 => ?_) <;> conv => whnf
  · exact ⟨rfl, _, rfl⟩
  refine br_di (fun k4 => ?_) (fun k4 => ?_) <;> conv => whnf
  · exact ⟨rfl, _, rfl⟩
  refine br_di (fun k5 => ?_) (fun k5 => ?_) <;> conv => whnf
  · exact ⟨rfl, _, rfl⟩
  refine br_di (fun k6 => ?_) (fun k6 => ?_) <;> conv => whnf
  · exact ⟨rfl, _, rfl⟩
  refine br_di (fun k7 => ?_) (fun k7 => ?_) <;> conv => whnf
  · exact ⟨rfl, _, rfl⟩
  omega
theorem rmiddle8_in (n f i j : Nat) (h1 : 1 ≤ n) (h2 : n ≤ 32) (hf : f < 6) (hi : i < n) (hj : j < n) (x : List Blk) : COk Tryz.prog 3 16 [I n, I (cellN n f i j)] (GG x) (.tup [(middleF n f i j).v, Bo true]) (GG x) := by
  refine lift ?_ rfl x
  have w1 : IntKind.i64.wrap (IntKind.i64.wrap (IntKind.i64.wrap (2 * (i : Int)) + 1) - n) = 2 * i + 1 - n := by simp (disch := omega) only [wrap_id]
  have w2 : IntKind.i64.wrap (IntKind.i64.wrap (IntKind.i64.wrap (2 * (j : Int)) + 1) - n) = 2 * j + 1 - n := by simp (disch := omega) only [wrap_id]
  have r1 := rratio_ok (2 * i + 1 - n) n ⟨by omega, by omega⟩ ⟨by omega, by omega⟩
  have r2 := rratio_ok (2 * j + 1 - n) n ⟨by omega, by omega⟩ ⟨by omega, by omega⟩
  have hp := rpoint_ok f hf (p := ratioO (2 * i + 1 - n) n) (q := ratioO (2 * j + 1 - n) n) (fdiv_lt _ _) (fdiv_lt _ _)
  rw [← w1] at r1
  rw [← w2] at r2
  rw [← w1, ← w2] at hp
  unfold middleF
  rw [← w1, ← w2]
  refine COk_quiet Tryz.f16 Tryz.func16 (by kernel_rfl) rfl ?_
  (conv => whnf); repeat ((first | refine ⟨_, _, rplace_in n f i j h1 h2 hf hi hj _, ?_⟩ | refine ⟨_, _, r1 _, ?_⟩ | refine ⟨_, _, r2 _, ?_⟩ | refine ⟨_, _, hp _, ?_⟩); conv => whnf)
  exact ⟨rfl, _, rfl⟩
theorem rmiddle8_no (side cell : Int) (h : ¬ (0 ≤ cell ∧ cell < cellsI side)) (x : List Blk) : COk Tryz.prog 3 16 [I side, I cell] (GG x) (.tup [V3f 0 0 0, Bo false]) (GG x) := by
  refine lift ?_ rfl x
  refine COk_quiet Tryz.f16 Tryz.func16 (by kernel_rfl) rfl ?_
  (conv => whnf); repeat (refine ⟨_, _, rplace_no _ _ h _, ?_⟩; conv => whnf)
  exact ⟨rfl, _, rfl⟩
theorem rglen_in (n f i j s : Nat) (h1 : 1 ≤ n) (h2 : n ≤ 32) (hf : f < 6) (hi : i < n) (hj : j < n) (hs : s < 4) (x : List Blk) : COk Tryz.prog 3 22 [I n, I (cellN n f i j), I s] (GG x) (F (lenS n f i j s)) (GG x) := by
  refine lift ?_ rfl x
  have w1 : IntKind.i64.wrap ((i : Int) + 1) = ((i + 1 : Nat) : Int) := by rw [wrap_id (by omega) (by omega)]; rfl
  have w2 : IntKind.i64.wrap ((j : Int) + 1) = ((j + 1 : Nat) : Int) := by rw [wrap_id (by omega) (by omega)]; rfl
  have c00 := rcorner_in n f (i := i) (j := j) rfl rfl h1 h2 hf (by omega) (by omega)
  have c11 := rcorner_in n f (i := i + 1) (j := j + 1) w1 w2 h1 h2 hf (by omega) (by omega)
  have c10 := rcorner_in n f (i := i + 1) (j := j) w1 rfl h1 h2 hf (by omega) (by omega)
  have c01 := rcorner_in n f (i := i) (j := j + 1) rfl w2 h1 h2 hf (by omega) (by omega)
  obtain rfl | rfl | rfl | rfl : s = 0 ∨ s = 1 ∨ s = 2 ∨ s = 3 := by omega
  all_goals
    refine COk_quiet Tryz.f22 Tryz.func22 (by kernel_rfl) rfl ?_
    (conv => whnf); repeat ((first | refine ⟨_, _, rplace_in n f i j h1 h2 hf hi hj _, ?_⟩ | refine ⟨_, _, c00 _, ?_⟩ | refine ⟨_, _, c11 _, ?_⟩ | refine ⟨_, _, c10 _, ?_⟩ | refine ⟨_, _, c01 _, ?_⟩ | refine ⟨_, _, rgap_ok _ _ _, ?_⟩); conv => whnf)
    exact ⟨rfl, _, rfl⟩
theorem rglen_no (side cell over : Int) (h : ¬ ((0 ≤ cell ∧ cell < cellsI side) ∧ 0 ≤ over ∧ over < 4)) (x : List Blk) : COk Tryz.prog 3 22 [I side, I cell, I over] (GG x) (F 0) (GG x) := by
  refine lift ?_ rfl x
  by_cases hc : 0 ≤ cell ∧ cell < cellsI side
  · obtain ⟨n, f, i, j, rfl, rfl, h1, h2, h3, h4, h5⟩ := cell_split hc
    by_cases ho : over < 0
    · refine COk_quiet Tryz.f22 Tryz.func22 (by kernel_rfl) rfl ?_
      (conv => whnf); repeat ((first | refine ⟨_, _, rplace_in n f i j h1 h2 h3 h4 h5 _, ?_⟩ | refine br_d (by omega) ?_); conv => whnf)
      exact ⟨rfl, _, rfl⟩
    · refine COk_quiet Tryz.f22 Tryz.func22 (by kernel_rfl) rfl ?_
      (conv => whnf); repeat ((first | refine ⟨_, _, rplace_in n f i j h1 h2 h3 h4 h5 _, ?_⟩ | refine br_d (by omega) ?_ | refine br_nd (by omega) ?_); conv => whnf)
      exact ⟨rfl, _, rfl⟩
  · refine COk_quiet Tryz.f22 Tryz.func22 (by kernel_rfl) rfl ?_
    (conv => whnf); repeat (refine ⟨_, _, rplace_no _ _ hc _, ?_⟩; conv => whnf)
    exact ⟨rfl, _, rfl⟩
theorem rggap_in (n f i j s : Nat) (h1 : 1 ≤ n) (h2 : n ≤ 32) (hf : f < 6) (hi : i < n) (hj : j < n) (hs : s < 4) (x : List Blk) : COk Tryz.prog 3 24 [I n, I (cellN n f i j), I s] (GG x) (F (gapS n f i j s)) (GG x) := by
  refine lift ?_ rfl x
  obtain ⟨k1, k2, k3, _⟩ := nb_lt (s := s) hf hi hj
  refine COk_quiet Tryz.f24 Tryz.func24 (by kernel_rfl) rfl ?_
  (conv => whnf); repeat ((first | refine ⟨_, _, rbeside_in n f i j s h1 h2 hf hi hj hs _, ?_⟩ | refine ⟨_, _, rmiddle8_in n f i j h1 h2 hf hi hj _, ?_⟩ | refine ⟨_, _, rmiddle8_in n _ _ _ h1 h2 k1 k2 k3 _, ?_⟩ | refine ⟨_, _, rgap_ok _ _ _, ?_⟩); conv => whnf)
  exact ⟨rfl, _, rfl⟩
theorem rggap_no (side cell over : Int) (h : ¬ ((0 ≤ cell ∧ cell < cellsI side) ∧ 0 ≤ over ∧ over < 4)) (x : List Blk) : COk Tryz.prog 3 24 [I side, I cell, I over] (GG x) (F 0) (GG x) := by
  refine lift ?_ rfl x
  refine COk_quiet Tryz.f24 Tryz.func24 (by kernel_rfl) rfl ?_
  (conv => whnf); repeat (refine ⟨_, _, rbeside_no _ _ _ h _, ?_⟩; conv => whnf)
  exact ⟨rfl, _, rfl⟩
theorem rarea_in (n f i j : Nat) (h1 : 1 ≤ n) (h2 : n ≤ 32) (hf : f < 6) (hi : i < n) (hj : j < n) (x : List Blk) : COk Tryz.prog 3 19 [I n, I (cellN n f i j)] (GG x) (I (areaT n f i j)) (GG x) := by
  refine lift ?_ rfl x
  have w1 : IntKind.i64.wrap ((i : Int) + 1) = ((i + 1 : Nat) : Int) := by rw [wrap_id (by omega) (by omega)]; rfl
  have w2 : IntKind.i64.wrap ((j : Int) + 1) = ((j + 1 : Nat) : Int) := by rw [wrap_id (by omega) (by omega)]; rfl
  have c00 := rcorner_in n f (i := i) (j := j) rfl rfl h1 h2 hf (by omega) (by omega)
  have c11 := rcorner_in n f (i := i + 1) (j := j + 1) w1 w2 h1 h2 hf (by omega) (by omega)
  have c10 := rcorner_in n f (i := i + 1) (j := j) w1 rfl h1 h2 hf (by omega) (by omega)
  have c01 := rcorner_in n f (i := i) (j := j + 1) rfl w2 h1 h2 hf (by omega) (by omega)
  obtain ⟨ok, hr⟩ := rround_ok (areaY (cornerF n f i j) (cornerF n f (i + 1) j) (cornerF n f (i + 1) (j + 1)) (cornerF n f i (j + 1))) (fmul_lt' _ _)
  unfold areaT
  simp only
  generalize hv : roundT (areaY (cornerF n f i j) (cornerF n f (i + 1) j) (cornerF n f (i + 1) (j + 1)) (cornerF n f i (j + 1))) = v at hr ⊢
  by_cases hlt : 1 > v
  · rw [if_pos hlt]
    refine COk_quiet Tryz.f19 Tryz.func19 (by kernel_rfl) rfl ?_
    (conv => whnf); repeat ((first | refine ⟨_, _, rplace_in n f i j h1 h2 hf hi hj _, ?_⟩ | refine ⟨_, _, c00 _, ?_⟩ | refine ⟨_, _, c11 _, ?_⟩ | refine ⟨_, _, c10 _, ?_⟩ | refine ⟨_, _, c01 _, ?_⟩ | refine ⟨_, rminus_ok _ _ _, ?_⟩ | refine ⟨_, rcross_ok (minusF (cornerF n f (i + 1) (j + 1)) (cornerF n f i j)) (minusF (cornerF n f i (j + 1)) (cornerF n f (i + 1) j)) _, ?_⟩ | refine ⟨_, rlength_ok (crossF (minusF (cornerF n f (i + 1) (j + 1)) (cornerF n f i j)) (minusF (cornerF n f i (j + 1)) (cornerF n f (i + 1) j))) _, ?_⟩ | refine ⟨_, _, hr _, ?_⟩ | refine br_d (by omega) ?_); conv => whnf)
    exact ⟨rfl, _, rfl⟩
  · rw [if_neg hlt]
    refine COk_quiet Tryz.f19 Tryz.func19 (by kernel_rfl) rfl ?_
    (conv => whnf); repeat ((first | refine ⟨_, _, rplace_in n f i j h1 h2 hf hi hj _, ?_⟩ | refine ⟨_, _, c00 _, ?_⟩ | refine ⟨_, _, c11 _, ?_⟩ | refine ⟨_, _, c10 _, ?_⟩ | refine ⟨_, _, c01 _, ?_⟩ | refine ⟨_, rminus_ok _ _ _, ?_⟩ | refine ⟨_, rcross_ok (minusF (cornerF n f (i + 1) (j + 1)) (cornerF n f i j)) (minusF (cornerF n f i (j + 1)) (cornerF n f (i + 1) j)) _, ?_⟩ | refine ⟨_, rlength_ok (crossF (minusF (cornerF n f (i + 1) (j + 1)) (cornerF n f i j)) (minusF (cornerF n f i (j + 1)) (cornerF n f (i + 1) j))) _, ?_⟩ | refine ⟨_, _, hr _, ?_⟩ | refine br_nd (by omega) ?_); conv => whnf)
    exact ⟨rfl, _, rfl⟩
theorem rarea_no (side cell : Int) (h : ¬ (0 ≤ cell ∧ cell < cellsI side)) (x : List Blk) : COk Tryz.prog 3 19 [I side, I cell] (GG x) (I 0) (GG x) := by
  refine lift ?_ rfl x
  refine COk_quiet Tryz.f19 Tryz.func19 (by kernel_rfl) rfl ?_
  (conv => whnf); repeat (refine ⟨_, _, rplace_no _ _ h _, ?_⟩; conv => whnf)
  exact ⟨rfl, _, rfl⟩
end Go.Proofs.YthoofdnnfahhaaaGreatDoor
