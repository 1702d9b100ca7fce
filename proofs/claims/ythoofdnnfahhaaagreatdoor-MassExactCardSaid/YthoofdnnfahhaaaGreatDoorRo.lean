/- The reference's bits: NaNs, noughts, order and the order of three, in plain numbers. No condition. -/
import Derived.Test.YthoofdnnfahhaaaGreatDoorRi
import Derived.Test.YthoofdnnfahhaaaGreatDoorMn
namespace Go.Proofs.YthoofdnnfahhaaaGreatDoor
open Go Go.Eng Ieee
set_option maxRecDepth 100000
set_option linter.unusedSimpArgs false
set_option linter.unusedVariables false

theorem mag_wd (s : Bool) {R : Nat} (h : R ≤ infR) : wd s R % 9223372036854775808 = R := by
  have h1 := infR_lt
  cases s
  · rw [wd_false]; omega
  · rw [wd_true]; omega
theorem nanB_mag {b : Nat} (h : nanB b) : infR < b % 9223372036854775808 := h.2
/-- A NaN, by its bits. -/
theorem none_is {b : Nat} (hb : b < 18446744073709551616) : fne (some b) (some b) = decide (infR < b % 9223372036854775808) := by
  rcases nan_or hb with h | ⟨s, R, hR, rfl⟩
  · rw [decide_eq_true (nanB_mag h)]
    unfold fne
    rw [(nan_cmp h _).1]; rfl
  · rw [fne_rk s s hR hR, mag_wd s hR, decide_eq_false (by omega)]
    simp [hR]
/-- A nought, by its bits. -/
theorem zero_is {b : Nat} (hb : b < 18446744073709551616) : feq (some b) (some 0) = decide (b % 9223372036854775808 = 0) := by
  rcases nan_or hb with h | ⟨s, R, hR, rfl⟩
  · rw [decide_eq_false (by have := nanB_mag h; omega)]
    unfold feq
    rw [(nan_cmp h _).1]; rfl
  · have e : feq (some (wd s R)) (some 0) = decide (rk s R = rk false 0) := feq_rk s false hR (Nat.zero_le _)
    rw [e, mag_wd s hR]
    unfold rk
    cases s <;> exact decide_eq_decide.2 (by simp)
def canonR (b : Nat) : Nat := if infR < b % 9223372036854775808 then qn else if b % 9223372036854775808 = 0 then 0 else b
theorem canonR_is {b : Nat} (hb : b < 18446744073709551616) : canonF (some b) = canonR b := by
  unfold canonF canonR
  rw [none_is hb, zero_is hb]
  simp only [decide_eq_true_eq, Option.getD_some]
def quietR (b : Nat) : Nat := if infR < b % 9223372036854775808 then qn else b
theorem quietR_is {b : Nat} (hb : b < 18446744073709551616) : quietF (some b) = quietR b := by
  unfold quietF quietR
  rw [none_is hb]
  simp only [decide_eq_true_eq, Option.getD_some]
def plN (b : Nat) : Int := if b < 9223372036854775808 then 9223372036854775808 + (b : Int) else 18446744073709551615 - (b : Int)
theorem placeW_is {b : Nat} (hb : b < 18446744073709551616) : placeW b = plN b := by
  unfold plN placeW
  by_cases h : b < 9223372036854775808
  · rw [if_neg (by omega), if_pos h]
    unfold bitV
    have e : (BitVec.ofInt IntKind.u64.bits (b : Int) ||| BitVec.ofInt IntKind.u64.bits 9223372036854775808).toNat = 9223372036854775808 + b := by
      show (BitVec.ofInt 64 (b : Int) ||| BitVec.ofInt 64 9223372036854775808).toNat = _
      rw [BitVec.toNat_or, BitVec.toNat_ofInt, BitVec.toNat_ofInt]
      have a1 : ((b : Int) % ((2 ^ 64 : Nat) : Int)).toNat = b := by omega
      have a2 : ((9223372036854775808 : Int) % ((2 ^ 64 : Nat) : Int)).toNat = 2 ^ 63 * 1 := by decide
      rw [a1, a2, Nat.or_comm, ← Nat.two_pow_add_eq_or_of_lt (by omega)]
    simp only
    rw [e, wrap_u (by omega) (by omega)]
    omega
  · rw [if_pos (by omega), if_neg h]
    unfold bitV
    have e : (BitVec.ofInt IntKind.u64.bits IntKind.u64.max ^^^ BitVec.ofInt IntKind.u64.bits ((b : Nat) : Int)).toNat = 18446744073709551615 - b := by
      show (BitVec.ofInt 64 18446744073709551615 ^^^ BitVec.ofInt 64 ((b : Nat) : Int)).toNat = _
      rw [show BitVec.ofInt 64 18446744073709551615 = BitVec.allOnes 64 by decide, BitVec.allOnes_xor, BitVec.toNat_not, BitVec.toNat_ofInt]
      have a1 : (((b : Nat) : Int) % ((2 ^ 64 : Nat) : Int)).toNat = b := by omega
      rw [a1]
    simp only
    rw [e, wrap_u (by omega) (by omega)]
    omega
/-- The reference's order. -/
def orderR (x y : Nat) : Int := if x = y then 0 else if 9223372036854775808 ≤ x ∧ 9223372036854775808 ≤ y then (if y < x then -1 else 1) else if 9223372036854775808 ≤ x then -1 else if 9223372036854775808 ≤ y then 1 else if x < y then -1 else 1
theorem orderR_is {x y : Nat} (hx : x < 18446744073709551616) (hy : y < 18446744073709551616) : orderW x y = orderR x y := by
  unfold orderW
  rw [placeW_is hx, placeW_is hy]
  unfold cmpI plN orderR
  repeat' split
  all_goals omega
theorem magW_is {b : Nat} (hb : b < 18446744073709551616) : magW b = 2 * ((b % 9223372036854775808 : Nat) : Int) := by
  unfold magW
  rw [wrapU_mod]
  omega
/-- Does y come ahead of x among three? -/
def aheadR (x y : Nat) : Bool := decide (x % 9223372036854775808 < y % 9223372036854775808 ∨ (x % 9223372036854775808 = y % 9223372036854775808 ∧ orderR x y < 0))
theorem aheadR_is {x y : Nat} (hx : x < 18446744073709551616) (hy : y < 18446744073709551616) : aheadR x y = decide (cmpW x y < 0) := by
  unfold aheadR cmpW
  rw [magW_is hx, magW_is hy, orderR_is hx hy]
  refine decide_eq_decide.2 ?_
  generalize x % 9223372036854775808 = p
  generalize y % 9223372036854775808 = q
  unfold or2 cmpI
  rcases Nat.lt_trichotomy p q with h | h | h
  · rw [if_pos (c := 2 * (p : Int) < 2 * (q : Int)) (by omega), if_pos (by decide)]
    exact ⟨fun _ => by decide, fun _ => .inl h⟩
  · subst h
    rw [if_neg (c := 2 * (p : Int) < 2 * (p : Int)) (by omega), if_neg (c := 2 * (p : Int) > 2 * (p : Int)) (by omega), if_neg (by decide)]
    exact ⟨fun h => h.resolve_left (by omega) |>.2, fun h => .inr ⟨rfl, h⟩⟩
  · rw [if_neg (c := 2 * (p : Int) < 2 * (q : Int)) (by omega), if_pos (c := 2 * (p : Int) > 2 * (q : Int)) (by omega), if_pos (by decide)]
    exact ⟨fun h' => absurd h' (by omega), fun h' => absurd h' (by decide)⟩
theorem ahead_asym {x y : Nat} (h : aheadR x y = true) : aheadR y x = false := by
  unfold aheadR at *
  have h := of_decide_eq_true h
  refine decide_eq_false ?_
  rintro (h2 | ⟨h2, h3⟩)
  · omega
  · rcases h with h | ⟨h, h4⟩
    · omega
    · unfold orderR at h3 h4
      repeat' split at h3
      all_goals (repeat' split at h4)
      all_goals omega
/-- Three numbers in the reference's order: exchanged where they stand wrong. -/
def sortR (a b c : Nat) : Nat × Nat × Nat :=
  let p := if aheadR b a then (b, a) else (a, b)
  let q := if aheadR c p.2 then (c, p.2) else (p.2, c)
  let r := if aheadR q.1 p.1 then (q.1, p.1) else (p.1, q.1)
  (r.1, r.2, q.2)
theorem sortR_is {a b c : Nat} (ha : a < 18446744073709551616) (hb : b < 18446744073709551616) (hc : c < 18446744073709551616) : sort3 a b c = [(sortR a b c).1, (sortR a b c).2.1, (sortR a b c).2.2] := by
  have k1 := aheadR_is hb ha
  have k2 := aheadR_is hc ha
  have k3 := aheadR_is hc hb
  have iff : ∀ {x y : Nat}, aheadR x y = decide (cmpW x y < 0) → (cmpW x y < 0 ↔ aheadR x y = true) := fun h => by rw [h, decide_eq_true_eq]
  unfold sort3 sortR
  simp only [iff k1, iff k2, iff k3]
  by_cases h1 : aheadR b a = true
  · have h1' := ahead_asym h1
    by_cases h2 : aheadR c a = true
    · by_cases h3 : aheadR c b = true <;> simp [h1, h2, h3, h1']
    · simp [h1, h2, h1']
  · by_cases h3 : aheadR c b = true
    · by_cases h2 : aheadR c a = true <;> simp [h1, h2, h3]
    · simp [h1, h3]
end Go.Proofs.YthoofdnnfahhaaaGreatDoor
