/- Packages limit and recon: what they answer. No condition. -/
import Derived.Test.YtgoljofmbidkfaaGreatDoorLv
import Derived.Test.YtgoljofmbidkfaaGreatDoorQw
import Derived.Test.YtgoljofmbidkfaaGreatDoorFo
namespace Go.Proofs.YtgoljofmbidkfaaGreatDoor
open Go Go.Eng
set_option maxRecDepth 100000
set_option linter.unusedSimpArgs false
set_option linter.unusedVariables false

abbrev twoW : Nat := 4611686018427387904
abbrev maxW : Nat := 9218868437227405311
theorem isinf0_ok (o : Option Nat) (m : List Blk) : COk Tryz.prog 3 189 [.fl o, I 0] m (Bo (fgt (absO o) (some maxW))) m := by
  refine COk_quiet Tryz.f189 Tryz.func189 (by kernel_rfl) rfl ?_
  (conv => whnf); repeat (refine ⟨_, _, abs_okO _ _, ?_⟩; conv => whnf)
  exact ⟨rfl, [], by simp⟩
/-- Leer's slope. -/
def leerF (x y : Option Nat) : Option Nat := fdiv (fmul (fmul (some twoW) x) y) (fadd x y)
def limO (kind : Int) (x y : Option Nat) : Option Nat :=
  if kind = 0 then some 0 else if kind = 1 then some (minO x y) else if kind = 2 then some (maxO (some (minO (fmul (some twoW) x) y)) (some (minO x (fmul (some twoW) y))))
  else if fne (leerF x y) (leerF x y) = true then some 0 else if fgt (absO (leerF x y)) (some maxW) = true then some 0 else leerF x y
/-- A limited slope. -/
def slopeF (kind : Int) (x y : Option Nat) : Nat :=
  if 0 ≤ kind ∧ kind ≤ 3 then
    (if fgt x (some 0) = true ∧ fgt y (some 0) = true then canonF (limO kind x y) else if flt x (some 0) = true ∧ flt y (some 0) = true then canonF (fneg (limO kind (fneg x) (fneg y))) else 0)
  else 0
theorem valid_ok (kind : Int) (m : List Blk) : COk Tryz.prog 3 69 [I kind] m (Bo (decide (0 ≤ kind ∧ kind ≤ 3))) m := by
  by_cases h : 0 ≤ kind
  · by_cases h' : kind ≤ 3
    · rw [decide_eq_true ⟨h, h'⟩]
      refine COk_quiet Tryz.f69 Tryz.func69 (by kernel_rfl) rfl ?_
      (conv => whnf); repeat (refine br_d (by omega) ?_; conv => whnf)
      exact ⟨congrArg V.bool (by simp <;> omega), [], by simp⟩
    · rw [decide_eq_false (fun k => h' k.2)]
      refine COk_quiet Tryz.f69 Tryz.func69 (by kernel_rfl) rfl ?_
      (conv => whnf); repeat (refine br_d (by omega) ?_; conv => whnf)
      exact ⟨congrArg V.bool (by simp <;> omega), [], by simp⟩
  · rw [decide_eq_false (fun k => h k.1)]
    refine COk_quiet Tryz.f69 Tryz.func69 (by kernel_rfl) rfl ?_
    (conv => whnf); repeat (refine br_nd (by omega) ?_; conv => whnf)
    exact ⟨rfl, [], by simp⟩
/-- How deep the water of a cell stands. -/
def dpE (n : Nat) (Wt : List Int) (c : Nat) : Option Nat := depthF (Wt.getD c 0) (areaC n c)
def slantF (n : Nat) (lim : Int) (Wt : List Int) (up down back : Nat) : Option Nat :=
  fadd (dpE n Wt up) (fmul (some halfB) (some (slopeF lim (fsub (dpE n Wt up) (dpE n Wt back)) (fsub (dpE n Wt down) (dpE n Wt up)))))
def gateF (n : Nat) (Be : List Nat) (Wt : List Int) (up down : Nat) : Option Nat :=
  fsub (some (levelF (Be.getD up 0) (Wt.getD up 0) (areaC n up))) (some (maxO (some (Be.getD up 0)) (some (Be.getD down 0))))
def posF (r : Nat) : Nat := if fgt (some r) (some 0) = true then r else 0
def reconW (n : Nat) (lim : Int) (Be : List Nat) (Wt : List Int) (up down back : Nat) : Nat := posF (minO (slantF n lim Wt up down back) (gateF n Be Wt up down))
/-- The depth over an edge. -/
def reconF (n : Nat) (lim : Int) (Be : List Nat) (Wt : List Int) (y : Ed) (u : Nat) : Nat :=
  if fgt (some u) (some 0) = true then reconW n lim Be Wt y.1 y.2.2.1 (nbC n y.1 ((y.2.1 + 2) % 4)).1
  else if flt (some u) (some 0) = true then reconW n lim Be Wt y.2.2.1 y.1 (nbC n y.2.2.1 ((y.2.2.2 + 2) % 4)).1
  else 0
abbrev seaQ (j0 j1 a b : Nat) (vT vS : V) (sky step : Int) : V := .agg [.sl j0 0 a, .sl j1 0 b, vT, vS, .int .i64 sky, I step]
section
variable {M : List Blk} {b n : Nat} (hsc : scM M.length M = true) (N : Net M b n) {j0 j1 : Nat} {vT vS : V} {Be : List Nat} {Wt : List Int} (S0 : SlF M j0 0 Be) (S1 : SlI M j1 0 Wt) (l2 : vT.sc M.length = true) (l3 : vS.sc M.length = true) (o2 : vT.one = true) (o3 : vS.one = true) (sky step : Int)
end
end Go.Proofs.YtgoljofmbidkfaaGreatDoor
