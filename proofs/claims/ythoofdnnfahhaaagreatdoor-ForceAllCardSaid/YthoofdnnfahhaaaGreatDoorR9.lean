/- The reference's points, lengths and areas. No condition. -/
import Derived.Test.YthoofdnnfahhaaaGreatDoorR7
import Derived.Test.YthoofdnnfahhaaaGreatDoorR6
namespace Go.Proofs.YthoofdnnfahhaaaGreatDoor
open Go Go.Eng Ieee
set_option maxRecDepth 100000
set_option linter.unusedSimpArgs false
set_option linter.unusedVariables false

theorem fneg_lt {o : Option Nat} (hb : Wd o) : Wd (fneg o) := by
  cases o with
  | none => exact fun b h => nomatch h
  | some u =>
    have hi := infR_eq
    refine wdF ?_
    rcases nan_or (hb u rfl) with h | ⟨s, R, hR, rfl⟩
    · obtain ⟨t, R, hR, rfl⟩ : ∃ t R, R < 2 ^ 63 ∧ u = wd t R := by
        have h1 := h.1
        by_cases h1 : 9223372036854775808 ≤ u
        · exact ⟨true, u - 9223372036854775808, by omega, by rw [wd_true]; omega⟩
        · exact ⟨false, u, by omega, rfl⟩
      rw [neg_wd t hR]
      cases t
      · show wd true R < _; rw [wd_true]; omega
      · show wd false R < _; rw [wd_false]; omega
    · rw [neg_wd s (by omega)]
      cases s
      · show wd true R < _; rw [wd_true]; omega
      · show wd false R < _; rw [wd_false]; omega
theorem ralong_eq (w a : Int) (h : w = a) (x : Option Nat) (m : List Blk) : COk Tryz.prog 3 194 [I w, I a, .fl x] m (.tup [.fl x, Bo true]) m := by
  subst h
  refine COk_quiet Tryz.f194 Tryz.func194 (by kernel_rfl) rfl ?_
  (conv => whnf); repeat (refine br_yes (beq_iff_eq.2 rfl) ?_; conv => whnf)
  exact ⟨rfl, [], by simp⟩
theorem ralong_ng (w a : Int) (h1 : (w == a) = false) (h2 : (w == IntKind.i64.wrap (0 - a)) = true) (x : Option Nat) (m : List Blk) : COk Tryz.prog 3 194 [I w, I a, .fl x] m (.tup [.fl (fneg x), Bo true]) m := by
  refine COk_quiet Tryz.f194 Tryz.func194 (by kernel_rfl) rfl ?_
  (conv => whnf); repeat ((first | refine br_no h1 ?_ | refine br_yes h2 ?_); conv => whnf)
  exact ⟨rfl, [], by simp⟩
theorem ralong_no (w a : Int) (h1 : (w == a) = false) (h2 : (w == IntKind.i64.wrap (0 - a)) = false) (x : Option Nat) (m : List Blk) : COk Tryz.prog 3 194 [I w, I a, .fl x] m (.tup [F 0, Bo false]) m := by
  refine COk_quiet Tryz.f194 Tryz.func194 (by kernel_rfl) rfl ?_
  (conv => whnf); repeat ((first | refine br_no h1 ?_ | refine br_no h2 ?_); conv => whnf)
  exact ⟨rfl, [], by simp⟩
def tabC : Nat → Int | 0 => 1 | 1 => 2 | 2 => -1 | 3 => -2 | 4 => 3 | _ => -3
def tabR : Nat → Int | 0 => 2 | 1 => -1 | 2 => -2 | 3 => 1 | 4 => 2 | _ => 2
def tabU : Nat → Int | 0 => 3 | 1 => 3 | 2 => 3 | 3 => 3 | 4 => -1 | _ => 1
theorem r8frame_ok (f : Nat) (hf : f < 6) (x : List Blk) : COk Tryz.prog 3 193 [I f] (GG x) (.tup [I (tabC f), I (tabR f), I (tabU f)]) (GG x) := by
  refine lift ?_ rfl x
  match f, hf with
  | 0, _ | 1, _ | 2, _ | 3, _ | 4, _ | 5, _ =>
    refine COk_quiet Tryz.f193 Tryz.func193 (by kernel_rfl) rfl ?_
    (conv => whnf)
    exact ⟨rfl, _, rfl⟩
theorem rcomp1_ok (f : Nat) (hf : f < 6) {p q : Option Nat} (hp : Wd p) (hq : Wd q) (x : List Blk) : COk Tryz.prog 3 147 [I f, I 1, .fl p, .fl q] (GG x) (F (pointV f p q).x) (GG x) := by
  refine lift ?_ rfl x
  match f, hf with
  | 0, _ | 1, _ | 2, _ | 3, _ | 4, _ | 5, _ =>
    refine COk_quiet Tryz.f147 Tryz.func147 (by kernel_rfl) rfl ?_
    (conv => whnf); repeat ((first | refine ⟨_, _, r8frame_ok _ (by decide) _, ?_⟩ | refine ⟨_, _, ralong_eq _ _ rfl _ _, ?_⟩ | refine ⟨_, _, ralong_ng _ _ rfl rfl _ _, ?_⟩ | refine ⟨_, _, ralong_no _ _ rfl rfl _ _, ?_⟩ | refine ⟨_, _, rcanon_ok (by first | exact hp | exact hq | exact fneg_lt hp | exact fneg_lt hq | exact wdF (by decide) | exact fneg_lt (wdF (by decide))) _, ?_⟩); conv => whnf)
    exact ⟨rfl, _, rfl⟩
theorem rcomp2_ok (f : Nat) (hf : f < 6) {p q : Option Nat} (hp : Wd p) (hq : Wd q) (x : List Blk) : COk Tryz.prog 3 147 [I f, I 2, .fl p, .fl q] (GG x) (F (pointV f p q).y) (GG x) := by
  refine lift ?_ rfl x
  match f, hf with
  | 0, _ | 1, _ | 2, _ | 3, _ | 4, _ | 5, _ =>
    refine COk_quiet Tryz.f147 Tryz.func147 (by kernel_rfl) rfl ?_
    (conv => whnf); repeat ((first | refine ⟨_, _, r8frame_ok _ (by decide) _, ?_⟩ | refine ⟨_, _, ralong_eq _ _ rfl _ _, ?_⟩ | refine ⟨_, _, ralong_ng _ _ rfl rfl _ _, ?_⟩ | refine ⟨_, _, ralong_no _ _ rfl rfl _ _, ?_⟩ | refine ⟨_, _, rcanon_ok (by first | exact hp | exact hq | exact fneg_lt hp | exact fneg_lt hq | exact wdF (by decide) | exact fneg_lt (wdF (by decide))) _, ?_⟩); conv => whnf)
    exact ⟨rfl, _, rfl⟩
theorem rcomp3_ok (f : Nat) (hf : f < 6) {p q : Option Nat} (hp : Wd p) (hq : Wd q) (x : List Blk) : COk Tryz.prog 3 147 [I f, I 3, .fl p, .fl q] (GG x) (F (pointV f p q).z) (GG x) := by
  refine lift ?_ rfl x
  match f, hf with
  | 0, _ | 1, _ | 2, _ | 3, _ | 4, _ | 5, _ =>
    refine COk_quiet Tryz.f147 Tryz.func147 (by kernel_rfl) rfl ?_
    (conv => whnf); repeat ((first | refine ⟨_, _, r8frame_ok _ (by decide) _, ?_⟩ | refine ⟨_, _, ralong_eq _ _ rfl _ _, ?_⟩ | refine ⟨_, _, ralong_ng _ _ rfl rfl _ _, ?_⟩ | refine ⟨_, _, ralong_no _ _ rfl rfl _ _, ?_⟩ | refine ⟨_, _, rcanon_ok (by first | exact hp | exact hq | exact fneg_lt hp | exact fneg_lt hq | exact wdF (by decide) | exact fneg_lt (wdF (by decide))) _, ?_⟩); conv => whnf)
    exact ⟨rfl, _, rfl⟩
theorem rpoint_ok (f : Nat) (hf : f < 6) {p q : Option Nat} (hp : Wd p) (hq : Wd q) (x : List Blk) : COk Tryz.prog 3 67 [I f, .fl p, .fl q] (GG x) (pointF f p q).v (GG x) := by
  refine lift ?_ rfl x
  refine COk_quiet Tryz.f67 Tryz.func67 (by kernel_rfl) rfl ?_
  (conv => whnf); repeat ((first | refine ⟨_, _, rcomp1_ok f hf hp hq _, ?_⟩ | refine ⟨_, _, rcomp2_ok f hf hp hq _, ?_⟩ | refine ⟨_, _, rcomp3_ok f hf hp hq _, ?_⟩ | refine ⟨_, _, runit_ok (pointV f p q) _, ?_⟩); conv => whnf)
  exact ⟨rfl, _, rfl⟩
end Go.Proofs.YthoofdnnfahhaaaGreatDoor
