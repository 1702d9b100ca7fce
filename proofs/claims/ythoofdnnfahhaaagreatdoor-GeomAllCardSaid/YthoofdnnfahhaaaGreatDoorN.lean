/- What the statements of layer 8 ask first: fixed answers. No condition. -/
import Derived.Test.YthoofdnnfahhaaaGreatDoorM
namespace Go.Proofs.YthoofdnnfahhaaaGreatDoor
open Go Go.Eng
set_option maxRecDepth 100000
set_option linter.unusedSimpArgs false
set_option linter.unusedVariables false

theorem samev_ok (a b : W) (x : List Blk) : COk Tryz.prog 3 17 [a.v, b.v] (GG x) (Bo (decide (a = b))) (GG x) := by
  refine lift ?_ rfl x
  refine COk_quiet Tryz.f17 Tryz.func17 (by kernel_rfl) rfl ?_
  conv => whnf
  refine ⟨_, _, same_ok _ _ _, ?_⟩
  conv => whnf
  obtain ⟨a1, a2, a3⟩ := a
  obtain ⟨b1, b2, b3⟩ := b
  refine br_di (fun h1 => ?_) (fun h1 => ?_) <;> conv => whnf
  · refine ⟨_, _, same_ok _ _ _, ?_⟩
    conv => whnf
    refine br_di (fun h2 => ?_) (fun h2 => ?_) <;> conv => whnf
    · refine ⟨_, _, same_ok _ _ _, ?_⟩
      conv => whnf
      refine ⟨?_, _, rfl⟩
      have h1 : a1 = b1 := h1
      have h2 : a2 = b2 := h2
      subst h1 h2
      congr 1
      by_cases h : a3 = b3 <;> simp [h]
    · refine ⟨?_, _, rfl⟩
      congr 1; symm
      rw [decide_eq_false_iff_not]
      intro h; injection h; exact h2 ‹_›
  · refine ⟨?_, _, rfl⟩
    congr 1; symm
    rw [decide_eq_false_iff_not]
    intro h; injection h; exact h1 ‹_›
theorem area1 : areaO 1 0 0 0 = some 1431655765 := by kernel_rfl
theorem area4 : areaO 4 0 1 1 = some 205701258 := by kernel_rfl
theorem awk1 : feq (some (cornerF 2 0 1 1).x) (some 4607182418800017408) = true := by kernel_rfl
theorem awk2 : feq (some (middleF 1 0 0 0).x) (some 4607182418800017408) = true := by kernel_rfl
theorem awk3 : fgt (some (lenS 1 0 0 0 0)) (some 4607857958744122982) = true := by kernel_rfl
theorem awk4 : fgt (some (gapS 1 0 0 0 0)) (some 4609028894647239311) = true := by kernel_rfl
theorem awake_of (c v : W) (l g : Nat)
    (hc : ∀ x, COk Tryz.prog 3 13 [I 2, I 0, I 1, I 1] (GG x) (.tup [c.v, Bo true]) (GG x))
    (hm : ∀ x, COk Tryz.prog 3 15 [I 1, I 0] (GG x) (.tup [v.v, Bo true]) (GG x))
    (ha : ∀ x, COk Tryz.prog 3 18 [I 1, I 0] (GG x) (I 1431655765) (GG x))
    (hb : ∀ x, COk Tryz.prog 3 18 [I 4, I 5] (GG x) (I 205701258) (GG x))
    (hl : ∀ x, COk Tryz.prog 3 21 [I 1, I 0, I 0] (GG x) (F l) (GG x))
    (hg : ∀ x, COk Tryz.prog 3 23 [I 1, I 0, I 0] (GG x) (F g) (GG x))
    (k1 : feq (some c.x) (some 4607182418800017408) = true) (k2 : feq (some v.x) (some 4607182418800017408) = true)
    (k3 : fgt (some l) (some 4607857958744122982) = true) (k4 : fgt (some g) (some 4609028894647239311) = true) (x : List Blk) :
    COk Tryz.prog 3 12 [] (GG x) (Bo true) (GG x) := by
  refine lift ?_ rfl x
  refine COk_quiet Tryz.f12 Tryz.func12 (by kernel_rfl) rfl ?_
  conv => whnf
  refine ⟨_, _, hc _, ?_⟩
  conv => whnf
  refine ⟨_, _, hm _, ?_⟩
  conv => whnf
  refine br_yes k1 ?_
  conv => whnf
  refine br_yes k2 ?_
  conv => whnf
  refine ⟨_, _, ha _, ?_⟩
  conv => whnf
  refine ⟨_, _, hb _, ?_⟩
  conv => whnf
  refine ⟨_, _, hl _, ?_⟩
  conv => whnf
  refine br_yes k3 ?_
  conv => whnf
  refine ⟨_, _, hg _, ?_⟩
  conv => whnf
  exact ⟨congrArg V.bool k4, _, rfl⟩
theorem awake_ok (x : List Blk) : COk Tryz.prog 3 12 [] (GG x) (Bo true) (GG x) :=
  awake_of _ _ _ _ (fun x => corner_in 2 0 (i := 1) (j := 1) rfl rfl (by decide) (by decide) (by decide) (by decide) (by decide) x)
    (fun x => middle_in 1 0 0 0 (by decide) (by decide) (by decide) (by decide) (by decide) x)
    (fun x => area_in 1 0 0 0 _ area1 (by decide) (by decide) (by decide) (by decide) (by decide) x)
    (fun x => area_in 4 0 1 1 _ area4 (by decide) (by decide) (by decide) (by decide) (by decide) x)
    (fun x => glen_in 1 0 0 0 0 (by decide) (by decide) (by decide) (by decide) (by decide) (by decide) x)
    (fun x => ggap_in 1 0 0 0 0 (by decide) (by decide) (by decide) (by decide) (by decide) (by decide) x)
    awk1 awk2 awk3 awk4 x
end Go.Proofs.YthoofdnnfahhaaaGreatDoor
