/- The small lake of layer 16's statements, and a copied sea. No condition. -/
import Derived.Test.YthoofdnnfahhaaaGreatDoorFc
namespace Go.Proofs.YthoofdnnfahhaaaGreatDoor
open Go Go.Eng
set_option maxRecDepth 100000
set_option linter.unusedSimpArgs false
set_option linter.unusedVariables false

abbrev ar1 : Int := 1431655765
abbrev gp1 : Nat := 4609047870845172685
theorem area1 : ∀ c, c < 6 → areaC 1 c = ar1 := by decide +kernel
theorem gap1 : ∀ x ∈ edges 1, gpE 1 x = gp1 := by decide +kernel
abbrev lakeW : List Int := [ar1, 2 * ar1, ar1, ar1, ar1, ar1]
abbrev lakeB : List Nat := List.replicate 6 0
abbrev lakeT : List Int := List.replicate 6 0
abbrev lakeS : List Nat := List.replicate 12 0
set_option maxHeartbeats 0 in
theorem lake16_ok {M : List Blk} (hsc : scM M.length M = true) {b : Nat} (N : Net M b 1) : COk Tryz.prog 3 129 [.ptr (b + 1) 0] M (seaV (M.length + 1) (M.length + 2) (M.length + 3) (M.length + 4) 6 6 6 12 0 0)
    (M ++ [⟨true, .cells [.sl (M.length + 1) 0 6, .sl (M.length + 2) 0 6, .sl (M.length + 3) 0 6, .sl (M.length + 4) 0 12, .int .i64 0, I 0]⟩, ⟨true, .flts lakeB⟩, ⟨true, .ints .i64 lakeW⟩, ⟨true, .ints .i64 lakeT⟩, ⟨true, .flts lakeS⟩, ⟨true, .cells [.sl (M.length + 1) 0 6, .sl (M.length + 2) 0 6, .sl (M.length + 3) 0 6, .sl (M.length + 4) 0 12, .int .i64 0, I 0]⟩]) := by
  have hA : ∀ x c, c < 6 → COk Tryz.prog 3 88 [.ptr (b + 1) 0, I (c : Nat)] (M ++ x) (I ar1) (M ++ x) := fun x c hc => by
    have := area_ok (N.more x) c (by omega)
    rwa [area1 c hc] at this
  have h6 : ∀ x, COk Tryz.prog 3 30 [.ptr (b + 1) 0] (M ++ x) (I 6) (M ++ x) := fun x => gcells_ok (N.more x)
  have h12 : ∀ x, COk Tryz.prog 3 32 [.ptr (b + 1) 0] (M ++ x) (I 12) (M ++ x) := fun x => by
    have := gedges_ok (N.more x)
    rwa [len1] at this
  refine COk_of_ev Tryz.f129 Tryz.func129 (by kernel_rfl) (by simp) (by simp [V.sc, scL]) (.inr (scM_app (scM_mono (by simp) _ hsc) (by simp [scM, B.sc, scL, V.sc]))) ?_
  (conv => whnf); repeat ((first | refine ⟨_, _, h6 _, ?_⟩ | refine ⟨_, _, h12 _, ?_⟩ | refine Or.inl ?_ | refine setB_app ?_ | rw [getB_app] | refine addB_f5 ?_ | refine addB_f4 ?_ | refine addB_f3 ?_ | refine addB_f2 ?_ | refine addB_f1 ?_ | refine addB_f0 ?_); conv => whnf)
  iterate 6
    refine lr ?_
    (conv => whnf); repeat ((first | refine ⟨_, hA _ 0 (by decide), ?_⟩ | refine ⟨_, hA _ 1 (by decide), ?_⟩ | refine ⟨_, hA _ 2 (by decide), ?_⟩ | refine ⟨_, hA _ 3 (by decide), ?_⟩ | refine ⟨_, hA _ 4 (by decide), ?_⟩ | refine ⟨_, hA _ 5 (by decide), ?_⟩ | refine setB_app ?_ | rw [getB_app]); conv => whnf)
  refine lr ?_
  (conv => whnf); repeat ((first | refine setB_app0 ?_ | rw [getB_app] | rw [getB_app0]); conv => whnf)
  exact ⟨rfl, [], by rw [List.append_nil]; rfl⟩
theorem seg_le (k : Nat) : Nat.ble (0 + k * 1) k = true := by simp
theorem ble_9 (k : Nat) : Nat.ble (0 + k) (k + 9) = true := by simp
theorem paste_1 {α : Type} (l : List α) (z : α) : Nat.ble (0 + 0 * 1 + ((l.drop 0).take (l.length * 1)).length) (List.replicate ((l.length + 9) * 1) z).length = true := by simp
theorem paste_2 {α : Type} (l : List α) (z : α) : Nat.ble (0 + (0 + l.length) * 1 + 1) (l ++ List.replicate 9 z).length = true := by simp
theorem cp_1 {α : Type} (l : List α) (z : α) : (List.replicate ((l.length + 9) * 1) z).take (0 + 0 * 1) ++ (l.drop 0).take (l.length * 1) ++ (List.replicate ((l.length + 9) * 1) z).drop (0 + 0 * 1 + ((l.drop 0).take (l.length * 1)).length) = l ++ List.replicate 9 z := by
  simp
theorem cp_2 {α : Type} (l : List α) (z y : α) : (l ++ List.replicate 9 z).take (0 + (0 + l.length) * 1) ++ [y] ++ (l ++ List.replicate 9 z).drop (0 + (0 + l.length) * 1 + [y].length) = l ++ y :: List.replicate 8 z := by
  simp [List.drop_append]
theorem ble_10 (k : Nat) : Nat.ble (0 + k + 1) (k + 9) = true := by simp
theorem app_le1 (n : Nat) (h : n ≤ 65536) : (0 + n + 1) * 8 ≤ 140737488355328 := by omega
theorem app_le (n : Nat) (h : n ≤ 65536) : (0 + n) * 8 ≤ 140737488355328 := by omega
abbrev w77 : Nat := 4635118810238550016
/-- A copied list, and what stands behind it. -/
def cpF (l : List Nat) : List Nat := l ++ w77 :: List.replicate 8 0
def cpI (l : List Int) : List Int := l ++ 77 :: List.replicate 8 0
abbrev copV (k a b c d : Nat) (sky step : Int) : V := .agg [.sk k 0 a (a + 9), .sk (k + 4) 0 b (b + 9), .sk (k + 6) 0 c (c + 9), .sk (k + 2) 0 d (d + 9), .int .i64 sky, I step]
end Go.Proofs.YthoofdnnfahhaaaGreatDoor
