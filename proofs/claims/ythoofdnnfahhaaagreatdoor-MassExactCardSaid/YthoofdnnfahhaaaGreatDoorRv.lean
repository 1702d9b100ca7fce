/- Roundings, lengths and slopes as the reference makes them, in plain numbers. No condition. -/
import Derived.Test.YthoofdnnfahhaaaGreatDoorRo
import Derived.Test.YthoofdnnfahhaaaGreatDoorRc
namespace Go.Proofs.YthoofdnnfahhaaaGreatDoor
open Go Go.Eng Ieee
set_option maxRecDepth 100000
set_option linter.unusedSimpArgs false
set_option linter.unusedVariables false

theorem flt_w {N M : Nat} (hN : N ≤ infR) (hM : M ≤ infR) : flt (some N) (some M) = decide (N < M) := by
  have := flt_rk false false hN hM
  rw [wd_false, wd_false] at this
  rw [this]; unfold rk; simp only [Bool.false_eq_true, if_false]; exact decide_eq_decide.2 (by omega)
theorem roundT_nan {b : Nat} (h : nanB b) : roundT (some b) = 0 := by
  have h1 := (round_nan b h [])
  have hn : nanB (absB b) := by
    obtain ⟨e1, e2⟩ := absB_lt b h.1
    have h2 := h.2
    have e3 : f64.signWeight = 2 ^ 63 := by decide
    rw [e3] at h2
    refine ⟨by omega, ?_⟩
    rw [e3, e2]
    omega
  have hf : flt (some (absB b)) (some wholeB) = false := by
    unfold flt; rw [(nan_cmp hn _).1]; rfl
  have hq : feq (some b) (some 14114281232179134464) = false := by
    unfold feq; rw [(nan_cmp h _).1]; rfl
  have hr : roundO b = none := by
    unfold roundO; rw [hf]
    split
    · rename_i h5 _ ; exact absurd h5 (by simp)
    · rfl
  simp only [roundT, hr, hq]; rfl
theorem roundT_wd (s : Bool) {R : Nat} (hR : R ≤ infR) : roundT (some (wd s R)) = if R < wholeB then (if s = true then -((nearZ R : Nat) : Int) else ((nearZ R : Nat) : Int)) else if s = true ∧ R = wholeB then -9223372036854775808 else 0 := by
  have hi := infR_eq
  have hw : wholeB = 4890909195324358656 := rfl
  by_cases h : R < wholeB
  · rw [if_pos h]
    obtain ⟨n, e1, e2, e3⟩ := near_is h
    have hf : flt (some R) (some wholeB) = true := by rw [flt_w hR whole_inf]; exact decide_eq_true h
    have g1 := (floor_whole (by omega) hf).1
    have hneg : flt (some (wd s R)) (some 0) = decide (rk s R < 0) := flt_rk s false hR (Nat.zero_le _)
    have hr : roundO (wd s R) = some (if flt (some (wd s R)) (some 0) = true then IntKind.i64.wrap (0 - IntKind.i64.wrap ((nearZ R : Nat) : Int)) else IntKind.i64.wrap ((nearZ R : Nat) : Int)) := by
      unfold roundO
      rw [absB_wd s hR, g1, hf, e1]
      simp only [e2]
    simp only [roundT, hr]
    rw [hneg, wrap_id (n := ((nearZ R : Nat) : Int)) (by omega) (by omega)]
    unfold rk
    cases s
    · simp only [Bool.false_eq_true, if_false, decide_eq_true_eq]
      rw [if_neg (by omega)]
    · simp only [if_true, decide_eq_true_eq]
      by_cases h0 : R = 0
      · subst h0; rw [near_zero]; rfl
      · rw [if_pos (by omega), wrap_id (by omega) (by omega)]; omega
  · rw [if_neg h]
    have hf : flt (some R) (some wholeB) = false := by rw [flt_w hR whole_inf]; exact decide_eq_false h
    have hr : roundO (wd s R) = none := by
      unfold roundO; rw [absB_wd s hR, hf]
      split
      · rename_i h5 _; exact absurd h5 (by simp)
      · rfl
    have hq : feq (some (wd s R)) (some 14114281232179134464) = decide (s = true ∧ R = wholeB) := by
      have e : (14114281232179134464 : Nat) = wd true wholeB := by rw [wd_true]; decide
      rw [e, feq_rk s true hR whole_inf]
      unfold rk
      refine decide_eq_decide.2 ?_
      cases s <;> simp <;> omega
    simp only [roundT, hr, hq, decide_eq_true_eq]
/-! ### Slopes -/
theorem plI_cmp (R Q : Nat) : cmpI (plI false R) (plI false Q) = if R < Q then -1 else if Q < R then 1 else 0 := by
  unfold cmpI plI
  simp only [Bool.false_eq_true, if_false]
  repeat' split
  all_goals omega
theorem fne_w {N : Nat} (hN : N ≤ infR) : fne (some N) (some N) = false := by
  have := fne_rk false false hN hN
  rw [wd_false] at this
  rw [this]; simp
theorem lesser_is {R Q : Nat} (hR : R ≤ infR) (hQ : Q ≤ infR) : minO (some R) (some Q) = if flt (some Q) (some R) = true then Q else R := by
  have ho : orderW R Q = cmpI (plI false R) (plI false Q) := by
    unfold orderW
    have a := placeW_wd false hR
    have b := placeW_wd false hQ
    rw [wd_false] at a b
    rw [a, b]
  have hm : minO (some R) (some Q) = if orderW R Q > 0 then Q else R := by
    unfold minO
    simp only [fne_w hR, fne_w hQ, Bool.false_eq_true, or_self, if_false]
  rw [hm, ho, plI_cmp, flt_w hQ hR]
  simp only [decide_eq_true_eq]
  repeat' split
  all_goals (first | rfl | omega)
theorem greater_is {R Q : Nat} (hR : R ≤ infR) (hQ : Q ≤ infR) : maxO (some R) (some Q) = if fgt (some Q) (some R) = true then Q else R := by
  have ho : orderW R Q = cmpI (plI false R) (plI false Q) := by
    unfold orderW
    have a := placeW_wd false hR
    have b := placeW_wd false hQ
    rw [wd_false] at a b
    rw [a, b]
  have hm : maxO (some R) (some Q) = if orderW R Q < 0 then Q else R := by
    unfold maxO
    simp only [fne_w hR, fne_w hQ, Bool.false_eq_true, or_self, if_false]
  rw [hm, ho, plI_cmp, fgt_w hQ hR]
  simp only [decide_eq_true_eq]
  repeat' split
  all_goals (first | rfl | omega)
theorem lesser_le {R Q : Nat} (hR : R ≤ infR) (hQ : Q ≤ infR) : minO (some R) (some Q) ≤ infR := by
  rw [lesser_is hR hQ]; split <;> assumption
theorem twice_is {R : Nat} (hR : R ≤ infR) : ∃ N, N ≤ infR ∧ fmul (some twoW) (some R) = some N := by
  rw [fmul_comm']
  obtain ⟨N, h1, h2, _⟩ := mul_at false hR (show twoW < infR by rw [infR_eq]; decide) (by decide)
  rw [wd_false, wd_false] at h2
  exact ⟨N, h1, h2⟩
theorem twice_is' {R : Nat} (hR : R ≤ infR) : ∃ N, N ≤ infR ∧ fmul (some R) (some twoW) = some N := by
  rw [fmul_comm']; exact twice_is hR
/-- The lesser, the greater of two floats, as the reference takes them. -/
def lessO (x y : Option Nat) : Option Nat := if flt y x = true then y else x
def moreO (x y : Option Nat) : Option Nat := if fgt y x = true then y else x
theorem lim1_pos {R Q : Nat} (hR : R ≤ infR) (hQ : Q ≤ infR) : limO 1 (some R) (some Q) = lessO (some R) (some Q) := by
  show some (minO (some R) (some Q)) = _
  rw [lesser_is hR hQ]
  unfold lessO
  split <;> rfl
theorem lim2_pos {R Q : Nat} (hR : R ≤ infR) (hQ : Q ≤ infR) : limO 2 (some R) (some Q) = moreO (lessO (fmul (some twoW) (some R)) (some Q)) (lessO (some R) (fmul (some twoW) (some Q))) := by
  obtain ⟨A, hA, eA⟩ := twice_is hR
  obtain ⟨B, hB, eB⟩ := twice_is hQ
  show some (maxO (some (minO (fmul (some twoW) (some R)) (some Q))) (some (minO (some R) (fmul (some twoW) (some Q))))) = _
  rw [eA, eB, greater_is (lesser_le hA hQ) (lesser_le hR hB), lesser_is hA hQ, lesser_is hR hB]
  unfold moreO lessO
  have p : ∀ (c : Bool) (x y : Nat), (if c = true then some x else some y) = some (if c = true then x else y) := fun c x y => by cases c <;> rfl
  rw [p, p, p]
/-! ### Lengths -/
theorem canon_pos {R : Nat} (hR : R ≤ infR) : canonF (some R) = R := by
  have hi := infR_eq
  rw [canonR_is (by omega)]
  unfold canonR
  rw [show R % 9223372036854775808 = R by omega, if_neg (by omega)]
  split <;> omega
theorem canon_none : canonF none = qn := rfl
theorem len_word (a : W) : lenF a = qn ∨ lenF a ≤ infR := by
  unfold lenF
  generalize threeO _ _ _ = x
  rw [fsqrt_is]
  cases hd : f64.read x with
  | nan s t => exact .inl rfl
  | infinity s =>
    cases s
    · refine .inr ?_
      show canonF (some (f64.write (.infinity false))) ≤ infR
      rw [write_inf, wd_false, canon_pos (Nat.le_refl _)]
      exact Nat.le_refl _
    · exact .inl rfl
  | number s m e =>
    have key : ∀ d : Option Ieee.Datum, (d = none ∨ (∃ t i, d = some (.number t 0 i)) ∨ ∃ k i, d = some (.number false k i)) → (canonF (d.map f64.write) = qn ∨ canonF (d.map f64.write) ≤ infR) := by
      rintro d (rfl | ⟨t, i, rfl⟩ | ⟨k, i, rfl⟩)
      · exact .inl rfl
      · refine .inr ?_
        show canonF (some (f64.write (.number t 0 i))) ≤ infR
        rw [write_num, nearest_sign, nearest_zero, show f64.word false 0 = 0 from wd_false 0, canonR_is (by cases t <;> decide)]
        unfold canonR
        rw [mag_wd t (Nat.zero_le _), if_neg (by omega), if_pos rfl]
        exact Nat.zero_le _
      · refine .inr ?_
        show canonF (some (f64.write (.number false k i))) ≤ infR
        rw [write_num, canon_pos (nearest_le k i)]
        exact nearest_le k i
    refine key _ ?_
    unfold Ieee.Datum.root
    by_cases h0 : m = 0
    · simp only [h0, if_true]
      exact .inr (.inl ⟨_, _, rfl⟩)
    · simp only [h0, if_false]
      cases s
      · exact .inr (.inr ⟨_, _, rfl⟩)
      · exact .inl rfl
theorem qn_nan : nanB qn := ⟨by decide, by show f64.infRung < _; decide⟩
/-- A length by which one may divide. -/
theorem unit_test (a : W) : (fgt (some (lenF a)) (some 0) && !fgt (some (lenF a)) (some 9218868437227405311)) = decide (lenF a ≠ 0 ∧ lenF a < infR) := by
  have hi := infR_eq
  rcases len_word a with h | h
  · rw [h]
    unfold fgt
    rw [(nan_cmp qn_nan _).1]
    exact (decide_eq_false (by rw [hi]; decide)).symm
  · generalize lenF a = l at *
    rw [fgt_w h (Nat.zero_le _), fgt_w h (by rw [hi]; decide)]
    rw [Bool.eq_iff_iff]
    simp only [Bool.and_eq_true, Bool.not_eq_true', decide_eq_true_eq, decide_eq_false_iff_not]
    omega
def classR (b : Nat) : Int := if b % 9223372036854775808 = 0 then 0 else if b % 9223372036854775808 < 4503599627370496 then 1 else if b % 9223372036854775808 < infR then 2 else if b % 9223372036854775808 = infR then 3 else 4
end Go.Proofs.YthoofdnnfahhaaaGreatDoor
