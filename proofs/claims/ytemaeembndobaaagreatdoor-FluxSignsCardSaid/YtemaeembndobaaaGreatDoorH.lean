/- Package vec: lengths, and geom's numbers. No condition. -/
import Derived.Test.YtemaeembndobaaaGreatDoorG
namespace Go.Proofs.YtemaeembndobaaaGreatDoor
open Go Go.Eng
set_option maxRecDepth 100000
set_option linter.unusedSimpArgs false
set_option linter.unusedVariables false

theorem fadd_nan_l {x : Nat} (h : nanB x) (o : Option Nat) : fadd (some x) o = none := by
  cases o with
  | none => rfl
  | some y => exact add_nan_l x y h
theorem fadd_nan_r {x : Nat} (h : nanB x) (o : Option Nat) : fadd o (some x) = none := by
  cases o with
  | none => rfl
  | some y => exact add_nan_r y x h
theorem fadd_none_l (o : Option Nat) : fadd none o = none := rfl
theorem row3_nan {x y z : Nat} (h : nanB x ∨ nanB y ∨ nanB z) : row3 [x, y, z] = qn := by
  unfold row3
  simp only [List.getD_cons_zero, List.getD_cons_succ]
  rcases h with h | h | h
  · rw [fadd_nan_l h, fadd_none_l]; rfl
  · rw [fadd_nan_r h, fadd_none_l]; rfl
  · rw [fadd_nan_r h]; rfl
theorem threeF_nan {a b c : Nat} (h : nanB a ∨ nanB b ∨ nanB c) : threeF a b c = qn := by
  unfold threeF sort3
  repeat' split
  all_goals
    apply row3_nan
    rcases h with h | h | h <;> simp [h]
def threeO : Option Nat → Option Nat → Option Nat → Nat
  | some a, some b, some c => threeF a b c
  | _, _, _ => qn
theorem threeO_of {a b c : Option Nat} {x y z : Nat} (ha : fden a x) (hb : fden b y) (hc : fden c z) : threeF x y z = threeO a b c := by
  cases a with
  | none => exact threeF_nan (.inl ha)
  | some a =>
    cases ha
    cases b with
    | none => exact threeF_nan (.inr (.inl hb))
    | some b =>
      cases hb
      cases c with
      | none => exact threeF_nan (.inr (.inr hc))
      | some c => cases hc; rfl
theorem threeO_ok (a b c : Option Nat) (x : List Blk) : COk Tryz.prog 3 123 [.fl a, .fl b, .fl c] (GG x) (F (threeO a b c)) (GG x) := by
  refine COk_bits [] fun x1 h1 => COk_bits [F x1] fun x2 h2 => COk_bits [F x1, F x2] fun x3 h3 => ?_
  rw [← threeO_of h1 h2 h3]
  exact three_ok x1 x2 x3 x
theorem msqrt_ok (o : Option Nat) (m : List Blk) : COk Tryz.prog 3 128 [.fl o] m (.fl (fsqrt o)) m := by
  refine COk_ext fun n g w xs h => ?_
  obtain ⟨y, ys, rfl, ⟨c, h1, rfl⟩, rfl⟩ := h
  have e : f64.sqrt c = fsqrt o := by
    cases o with
    | some a => cases h1; rfl
    | none =>
      obtain ⟨s, f, e⟩ := read_nan h1
      simp only [Ieee.Format.sqrt, e]
      rfl
  have key : (callFunc 128 #[.float .f64 c]).run Tryz.prog w = ((match f64.sqrt c with | some r => (pure (.float .f64 r) : Sem Value) | none => do pure (.float .f64 (← choose (.nanBits .f64 c c)))) >>= fun v => (pure (Next.value v) : Sem Next)).run Tryz.prog w := by kernel_rfl
  show ∃ x w', (callFunc 128 #[.float .f64 c]).run Tryz.prog w = _ ∧ _
  rw [key, Sem.run_bind]
  rw [← e]
  cases hc : f64.sqrt c with
  | some r => exact ⟨.float .f64 r, w, by simp, ⟨r, rfl, rfl⟩, .refl w⟩
  | none => exact ⟨_, _, by simp [Question.forced]; rfl, ⟨_, nan_cut c c (w.tape w.drawn (.nanBits .f64 c c)), rfl⟩, ⟨_, rfl⟩⟩
theorem sqrt_ok (o : Option Nat) (m : List Blk) : COk Tryz.prog 3 122 [.fl o] m (.fl (fsqrt o)) m := by
  refine COk_quiet Tryz.f122 Tryz.func122 (by kernel_rfl) rfl ?_
  conv => whnf
  refine ⟨_, _, msqrt_ok _ _, ?_⟩
  conv => whnf
  exact ⟨rfl, [], by simp⟩
def lenF (a : W) : Nat := canonF (fsqrt (some (threeO (fmul (some a.x) (some a.x)) (fmul (some a.y) (some a.y)) (fmul (some a.z) (some a.z)))))
theorem length_ok (a : W) (x : List Blk) : COk Tryz.prog 3 106 [a.v] (GG x) (F (lenF a)) (GG x) := by
  refine lift ?_ rfl x
  refine COk_quiet Tryz.f106 Tryz.func106 (by kernel_rfl) rfl ?_
  conv => whnf
  refine ⟨_, _, threeO_ok _ _ _ _, ?_⟩
  conv => whnf
  refine ⟨_, _, sqrt_ok _ _, ?_⟩
  conv => whnf
  refine ⟨_, _, canon_ok _ _, ?_⟩
  conv => whnf
  exact ⟨rfl, _, rfl⟩
def gapF (a b : W) : Nat := lenF (minusF a b)
theorem vgap_ok (a b : W) (x : List Blk) : COk Tryz.prog 3 92 [a.v, b.v] (GG x) (F (gapF a b)) (GG x) := by
  refine lift ?_ rfl x
  refine COk_quiet Tryz.f92 Tryz.func92 (by kernel_rfl) rfl ?_
  conv => whnf
  refine ⟨_, _, minus_ok a b _, ?_⟩
  conv => whnf
  refine ⟨_, _, length_ok (minusF a b) _, ?_⟩
  conv => whnf
  exact ⟨rfl, _, rfl⟩
theorem isinf_ok (o : Option Nat) (m : List Blk) : COk Tryz.prog 3 116 [.fl o, I 1] m (Bo (fgt o (some 9218868437227405311))) m := by
  refine COk_quiet Tryz.f116 Tryz.func116 (by kernel_rfl) rfl ?_
  conv => whnf
  exact ⟨rfl, [], by simp⟩
def unitF (a : W) : W :=
  if (fgt (some (lenF a)) (some 0) && !fgt (some (lenF a)) (some 9218868437227405311)) = true then
    ⟨canonF (fdiv (some a.x) (some (lenF a))), canonF (fdiv (some a.y) (some (lenF a))), canonF (fdiv (some a.z) (some (lenF a)))⟩
  else ⟨0, 0, 0⟩
theorem unit_ok (a : W) (x : List Blk) : COk Tryz.prog 3 125 [a.v] (GG x) (unitF a).v (GG x) := by
  refine lift ?_ rfl x
  refine COk_quiet Tryz.f125 Tryz.func125 (by kernel_rfl) rfl ?_
  conv => whnf
  refine ⟨_, _, length_ok a _, ?_⟩
  conv => whnf
  refine br_not (br_intro (fun h => ?_) (fun h => ?_)) <;> conv => whnf
  · refine ⟨_, _, isinf_ok _ _, ?_⟩
    conv => whnf
    refine br_intro (fun h' => ?_) (fun h' => ?_) <;> conv => whnf
    · exact ⟨by rw [unitF, if_neg (by rw [h, h']; decide)], _, rfl⟩
    · refine ⟨_, _, vcanon_ok _ _ _ _, ?_⟩
      conv => whnf
      exact ⟨by rw [unitF, if_pos (by rw [h, h']; decide)], _, rfl⟩
  · exact ⟨by rw [unitF, if_neg (by rw [h]; simp)], _, rfl⟩
end Go.Proofs.YtemaeembndobaaaGreatDoor
