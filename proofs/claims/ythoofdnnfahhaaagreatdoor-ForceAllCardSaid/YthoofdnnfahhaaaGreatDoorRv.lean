/- Whole numbers as floats, as the reference makes them. No condition. -/
import Derived.Test.YthoofdnnfahhaaaGreatDoorQf
import Derived.Test.YthoofdnnfahhaaaGreatDoorMn
import Derived.Test.YthoofdnnfahhaaaGreatDoorRc
namespace Go.Proofs.YthoofdnnfahhaaaGreatDoor
open Go Go.Eng Ieee
set_option maxRecDepth 100000
set_option linter.unusedSimpArgs false
set_option linter.unusedVariables false

theorem cut_nearN (K t : Nat) (ht : t ≤ K.log2 + 2) : Ieee.Toward.even.cut false K t = nearN K t := by
  unfold Ieee.Toward.cut nearN
  simp only [Nat.min_eq_left ht, Nat.shiftLeft_eq, Nat.one_mul]
  by_cases h : 2 ^ t < 2 * (K % 2 ^ t)
  · rw [if_pos (.inl h), decide_eq_true h]; rfl
  · rw [decide_eq_false h]
    by_cases h2 : 2 ^ t = 2 * (K % 2 ^ t) ∧ K / 2 ^ t % 2 = 1
    · rw [if_pos (.inr h2)]
      have e1 : (2 ^ t == 2 * (K % 2 ^ t)) = true := beq_iff_eq.2 h2.1
      have e2 : (K / 2 ^ t % 2 == 1) = true := beq_iff_eq.2 h2.2
      rw [e1, e2]; rfl
    · rw [if_neg (by rintro (h' | h'); exact h h'; exact h2 h')]
      have : ((2 ^ t == 2 * (K % 2 ^ t)) && (K / 2 ^ t % 2 == 1)) = false := by
        apply Bool.eq_false_iff.2
        intro h3
        rw [Bool.and_eq_true] at h3
        exact h2 ⟨beq_iff_eq.1 h3.1, beq_iff_eq.1 h3.2⟩
      rw [this]; rfl
/-- The word of a whole number without a sign. -/
def smallW (m : Nat) : Nat := if m = 0 then 0 else if m.log2 < 52 then (1022 + m.log2) * 4503599627370496 + m * 2 ^ (52 - m.log2) else if m.log2 = 52 then 1074 * 4503599627370496 + m else (1022 + m.log2) * 4503599627370496 + nearN m (m.log2 - 52)
theorem small_is (m : Nat) (h : m < 2 ^ 64) : f64.nearest false m 0 = smallW m ∧ (m ≠ 0 → smallW m < 1087 * 4503599627370496 + 4503599627370496) := by
  unfold smallW
  rcases Nat.eq_zero_or_pos m with rfl | h0
  · rw [if_pos rfl]
    exact ⟨(nearest_zero f64 0).trans (wd_false 0), fun h => absurd rfl h⟩
  have hm : m ≠ 0 := by omega
  have hl1 := Nat.log2_self_le hm
  have hl2 := Nat.lt_log2_self (n := m)
  have hlog : m.log2 < 64 := (Nat.log2_lt hm).2 h
  rw [if_neg hm]
  by_cases h1 : m.log2 < 52
  · rw [if_pos h1]
    have h3 : m < 9007199254740992 := by
      have : 2 ^ (m.log2 + 1) ≤ 2 ^ 52 := Nat.pow_le_pow_right (by decide) (by omega)
      omega
    obtain ⟨e, h4, h5, _⟩ := nearest_small h0 h3
    refine ⟨e, fun _ => ?_⟩
    have : m * 2 ^ (52 - m.log2) < 2 ^ (m.log2 + 1) * 2 ^ (52 - m.log2) := Nat.mul_lt_mul_of_pos_right hl2 (Nat.two_pow_pos _)
    rw [← Nat.pow_add, show m.log2 + 1 + (52 - m.log2) = 53 by omega] at this
    omega
  · rw [if_neg h1]
    have e := nearest_is m 0 hm
    have e0 : Ieee.double.nearest false m 0 = f64.nearest false m 0 := rfl
    have hL : lastP m 0 = (m.log2 : Int) - 52 := by unfold lastP; omega
    rw [e0, hL, show (0 - ((m.log2 : Int) - 52)).toNat = 0 by omega, Nat.shiftLeft_zero, show ((m.log2 : Int) - 52 - 0).toNat = m.log2 - 52 by omega, show ((m.log2 : Int) - 52 + 1074).toNat = 1022 + m.log2 by omega, cut_nearN m _ (by omega)] at e
    have hi : Ieee.double.infRung = infR := rfl
    have hi2 := infR_eq
    rw [hi] at e
    have hb : nearN m (m.log2 - 52) ≤ 2 ^ 53 := by
      have h3 : m / 2 ^ (m.log2 - 52) < 2 ^ 53 := by
        rw [Nat.div_lt_iff_lt_mul (Nat.two_pow_pos _), ← Nat.pow_add, show 53 + (m.log2 - 52) = m.log2 + 1 by omega]
        exact hl2
      unfold nearN
      split <;> omega
    have hmin : min ((1022 + m.log2) * 2 ^ 52 + nearN m (m.log2 - 52)) infR = (1022 + m.log2) * 2 ^ 52 + nearN m (m.log2 - 52) := by
      generalize nearN m (m.log2 - 52) = q at *
      omega
    rw [hmin] at e
    by_cases h2 : m.log2 = 52
    · rw [if_pos h2, e, h2]
      have : nearN m (52 - 52) = m := by
        unfold nearN
        rw [Nat.sub_self, Nat.pow_zero, Nat.mod_one, Nat.div_one, if_neg (by omega)]
      rw [this]
      rw [h2] at hl2
      exact ⟨rfl, fun _ => by omega⟩
    · rw [if_neg h2, e]
      refine ⟨rfl, fun _ => ?_⟩
      generalize nearN m (m.log2 - 52) = q at *
      have : m.log2 ≤ 63 := by omega
      omega
theorem nI_is (i : Int) : nI i = wd (decide (i < 0)) (f64.nearest false i.natAbs 0) := by
  unfold nI FloatKind.nearest
  show f64.write (.number (decide (i < 0)) i.natAbs 0) = _
  rw [write_num, nearest_sign]

theorem mag_wd (s : Bool) {R : Nat} (h : R ≤ infR) : wd s R % 9223372036854775808 = R := by
  have h1 := infR_lt
  cases s
  · rw [wd_false]; omega
  · rw [wd_true]; omega
theorem nanB_mag {b : Nat} (h : nanB b) : infR < b % 9223372036854775808 := h.2
/-- A NaN, by its bits. -/
theorem none_is {b : Nat} (hb : b < 18446744073709551616) : fne (some b) (some b) = decide (infR < b % 9223372036854775808) := by
  rcases nan_or hb with h | ⟨s, R, hR, rfl⟩
  · rw [decide_eq_true (nanB_mag h)]
    unfold fne
    rw [(nan_cmp h _).1]; rfl
  · rw [fne_rk s s hR hR, mag_wd s hR, decide_eq_false (by omega)]
    simp [hR]
/-- A nought, by its bits. -/
theorem zero_is {b : Nat} (hb : b < 18446744073709551616) : feq (some b) (some 0) = decide (b % 9223372036854775808 = 0) := by
  rcases nan_or hb with h | ⟨s, R, hR, rfl⟩
  · rw [decide_eq_false (by have := nanB_mag h; omega)]
    unfold feq
    rw [(nan_cmp h _).1]; rfl
  · have e : feq (some (wd s R)) (some 0) = decide (rk s R = rk false 0) := feq_rk s false hR (Nat.zero_le _)
    rw [e, mag_wd s hR]
    unfold rk
    cases s <;> exact decide_eq_decide.2 (by simp)
def canonR (b : Nat) : Nat := if infR < b % 9223372036854775808 then qn else if b % 9223372036854775808 = 0 then 0 else b
theorem canonR_is {b : Nat} (hb : b < 18446744073709551616) : canonF (some b) = canonR b := by
  unfold canonF canonR
  rw [none_is hb, zero_is hb]
  simp only [decide_eq_true_eq, Option.getD_some]
def quietR (b : Nat) : Nat := if infR < b % 9223372036854775808 then qn else b
theorem quietR_is {b : Nat} (hb : b < 18446744073709551616) : quietF (some b) = quietR b := by
  unfold quietF quietR
  rw [none_is hb]
  simp only [decide_eq_true_eq, Option.getD_some]
def plN (b : Nat) : Int := if b < 9223372036854775808 then 9223372036854775808 + (b : Int) else 18446744073709551615 - (b : Int)
theorem placeW_is {b : Nat} (hb : b < 18446744073709551616) : placeW b = plN b := by
  unfold plN placeW
  by_cases h : b < 9223372036854775808
  · rw [if_neg (by omega), if_pos h]
    unfold bitV
    have e : (BitVec.ofInt IntKind.u64.bits (b : Int) ||| BitVec.ofInt IntKind.u64.bits 9223372036854775808).toNat = 9223372036854775808 + b := by
      show (BitVec.ofInt 64 (b : Int) ||| BitVec.ofInt 64 9223372036854775808).toNat = _
      rw [BitVec.toNat_or, BitVec.toNat_ofInt, BitVec.toNat_ofInt]
      have a1 : ((b : Int) % ((2 ^ 64 : Nat) : Int)).toNat = b := by omega
      have a2 : ((9223372036854775808 : Int) % ((2 ^ 64 : Nat) : Int)).toNat = 2 ^ 63 * 1 := by decide
      rw [a1, a2, Nat.or_comm, ← Nat.two_pow_add_eq_or_of_lt (by omega)]
    simp only
    rw [e, wrap_u (by omega) (by omega)]
    omega
  · rw [if_pos (by omega), if_neg h]
    unfold bitV
    have e : (BitVec.ofInt IntKind.u64.bits IntKind.u64.max ^^^ BitVec.ofInt IntKind.u64.bits ((b : Nat) : Int)).toNat = 18446744073709551615 - b := by
      show (BitVec.ofInt 64 18446744073709551615 ^^^ BitVec.ofInt 64 ((b : Nat) : Int)).toNat = _
      rw [show BitVec.ofInt 64 18446744073709551615 = BitVec.allOnes 64 by decide, BitVec.allOnes_xor, BitVec.toNat_not, BitVec.toNat_ofInt]
      have a1 : (((b : Nat) : Int) % ((2 ^ 64 : Nat) : Int)).toNat = b := by omega
      rw [a1]
    simp only
    rw [e, wrap_u (by omega) (by omega)]
    omega
/-- The reference's order. -/
def orderR (x y : Nat) : Int := if x = y then 0 else if 9223372036854775808 ≤ x ∧ 9223372036854775808 ≤ y then (if y < x then -1 else 1) else if 9223372036854775808 ≤ x then -1 else if 9223372036854775808 ≤ y then 1 else if x < y then -1 else 1
theorem orderR_is {x y : Nat} (hx : x < 18446744073709551616) (hy : y < 18446744073709551616) : orderW x y = orderR x y := by
  unfold orderW
  rw [placeW_is hx, placeW_is hy]
  unfold cmpI plN orderR
  repeat' split
  all_goals omega
theorem magW_is {b : Nat} (hb : b < 18446744073709551616) : magW b = 2 * ((b % 9223372036854775808 : Nat) : Int) := by
  unfold magW
  rw [wrapU_mod]
  omega
/-- Does y come ahead of x among three? -/
def aheadR (x y : Nat) : Bool := decide (x % 9223372036854775808 < y % 9223372036854775808 ∨ (x % 9223372036854775808 = y % 9223372036854775808 ∧ orderR x y < 0))
theorem aheadR_is {x y : Nat} (hx : x < 18446744073709551616) (hy : y < 18446744073709551616) : aheadR x y = decide (cmpW x y < 0) := by
  unfold aheadR cmpW
  rw [magW_is hx, magW_is hy, orderR_is hx hy]
  refine decide_eq_decide.2 ?_
  generalize x % 9223372036854775808 = p
  generalize y % 9223372036854775808 = q
  unfold or2 cmpI
  rcases Nat.lt_trichotomy p q with h | h | h
  · rw [if_pos (c := 2 * (p : Int) < 2 * (q : Int)) (by omega), if_pos (by decide)]
    exact ⟨fun _ => by decide, fun _ => .inl h⟩
  · subst h
    rw [if_neg (c := 2 * (p : Int) < 2 * (p : Int)) (by omega), if_neg (c := 2 * (p : Int) > 2 * (p : Int)) (by omega), if_neg (by decide)]
    exact ⟨fun h => h.resolve_left (by omega) |>.2, fun h => .inr ⟨rfl, h⟩⟩
  · rw [if_neg (c := 2 * (p : Int) < 2 * (q : Int)) (by omega), if_pos (c := 2 * (p : Int) > 2 * (q : Int)) (by omega), if_pos (by decide)]
    exact ⟨fun h' => absurd h' (by omega), fun h' => absurd h' (by decide)⟩
theorem ahead_asym {x y : Nat} (h : aheadR x y = true) : aheadR y x = false := by
  unfold aheadR at *
  have h := of_decide_eq_true h
  refine decide_eq_false ?_
  rintro (h2 | ⟨h2, h3⟩)
  · omega
  · rcases h with h | ⟨h, h4⟩
    · omega
    · unfold orderR at h3 h4
      repeat' split at h3
      all_goals (repeat' split at h4)
      all_goals omega
/-- Three numbers in the reference's order: exchanged where they stand wrong. -/
def sortR (a b c : Nat) : Nat × Nat × Nat :=
  let p := if aheadR b a then (b, a) else (a, b)
  let q := if aheadR c p.2 then (c, p.2) else (p.2, c)
  let r := if aheadR q.1 p.1 then (q.1, p.1) else (p.1, q.1)
  (r.1, r.2, q.2)
theorem sortR_is {a b c : Nat} (ha : a < 18446744073709551616) (hb : b < 18446744073709551616) (hc : c < 18446744073709551616) : sort3 a b c = [(sortR a b c).1, (sortR a b c).2.1, (sortR a b c).2.2] := by
  have k1 := aheadR_is hb ha
  have k2 := aheadR_is hc ha
  have k3 := aheadR_is hc hb
  have iff : ∀ {x y : Nat}, aheadR x y = decide (cmpW x y < 0) → (cmpW x y < 0 ↔ aheadR x y = true) := fun h => by rw [h, decide_eq_true_eq]
  unfold sort3 sortR
  simp only [iff k1, iff k2, iff k3]
  by_cases h1 : aheadR b a = true
  · have h1' := ahead_asym h1
    by_cases h2 : aheadR c a = true
    · by_cases h3 : aheadR c b = true <;> simp [h1, h2, h3, h1']
    · simp [h1, h2, h1']
  · by_cases h3 : aheadR c b = true
    · by_cases h2 : aheadR c a = true <;> simp [h1, h2, h3]
    · simp [h1, h3]

theorem flt_w {N M : Nat} (hN : N ≤ infR) (hM : M ≤ infR) : flt (some N) (some M) = decide (N < M) := by
  have := flt_rk false false hN hM
  rw [wd_false, wd_false] at this
  rw [this]; unfold rk; simp only [Bool.false_eq_true, if_false]; exact decide_eq_decide.2 (by omega)
theorem roundT_nan {b : Nat} (h : nanB b) : roundT (some b) = 0 := by
  have h1 := (round_nan b h [])
  have hn : nanB (absB b) := by
    obtain ⟨e1, e2⟩ := absB_lt b h.1
    have h2 := h.2
    have e3 : f64.signWeight = 2 ^ 63 := by decide
    rw [e3] at h2
    refine ⟨by omega, ?_⟩
    rw [e3, e2]
    omega
  have hf : flt (some (absB b)) (some wholeB) = false := by
    unfold flt; rw [(nan_cmp hn _).1]; rfl
  have hq : feq (some b) (some 14114281232179134464) = false := by
    unfold feq; rw [(nan_cmp h _).1]; rfl
  have hr : roundO b = none := by
    unfold roundO; rw [hf]
    split
    · rename_i h5 _ ; exact absurd h5 (by simp)
    · rfl
  simp only [roundT, hr, hq]; rfl
theorem roundT_wd (s : Bool) {R : Nat} (hR : R ≤ infR) : roundT (some (wd s R)) = if R < wholeB then (if s = true then -((nearZ R : Nat) : Int) else ((nearZ R : Nat) : Int)) else if s = true ∧ R = wholeB then -9223372036854775808 else 0 := by
  have hi := infR_eq
  have hw : wholeB = 4890909195324358656 := rfl
  by_cases h : R < wholeB
  · rw [if_pos h]
    obtain ⟨n, e1, e2, e3⟩ := near_is h
    have hf : flt (some R) (some wholeB) = true := by rw [flt_w hR whole_inf]; exact decide_eq_true h
    have g1 := (floor_whole (by omega) hf).1
    have hneg : flt (some (wd s R)) (some 0) = decide (rk s R < 0) := flt_rk s false hR (Nat.zero_le _)
    have hr : roundO (wd s R) = some (if flt (some (wd s R)) (some 0) = true then IntKind.i64.wrap (0 - IntKind.i64.wrap ((nearZ R : Nat) : Int)) else IntKind.i64.wrap ((nearZ R : Nat) : Int)) := by
      unfold roundO
      rw [absB_wd s hR, g1, hf, e1]
      simp only [e2]
    simp only [roundT, hr]
    rw [hneg, wrap_id (n := ((nearZ R : Nat) : Int)) (by omega) (by omega)]
    unfold rk
    cases s
    · simp only [Bool.false_eq_true, if_false, decide_eq_true_eq]
      rw [if_neg (by omega)]
    · simp only [if_true, decide_eq_true_eq]
      by_cases h0 : R = 0
      · subst h0; rw [near_zero]; rfl
      · rw [if_pos (by omega), wrap_id (by omega) (by omega)]; omega
  · rw [if_neg h]
    have hf : flt (some R) (some wholeB) = false := by rw [flt_w hR whole_inf]; exact decide_eq_false h
    have hr : roundO (wd s R) = none := by
      unfold roundO; rw [absB_wd s hR, hf]
      split
      · rename_i h5 _; exact absurd h5 (by simp)
      · rfl
    have hq : feq (some (wd s R)) (some 14114281232179134464) = decide (s = true ∧ R = wholeB) := by
      have e : (14114281232179134464 : Nat) = wd true wholeB := by rw [wd_true]; decide
      rw [e, feq_rk s true hR whole_inf]
      unfold rk
      refine decide_eq_decide.2 ?_
      cases s <;> simp <;> omega
    simp only [roundT, hr, hq, decide_eq_true_eq]
/-! ### Slopes -/
theorem plI_cmp (R Q : Nat) : cmpI (plI false R) (plI false Q) = if R < Q then -1 else if Q < R then 1 else 0 := by
  unfold cmpI plI
  simp only [Bool.false_eq_true, if_false]
  repeat' split
  all_goals omega
theorem fne_w {N : Nat} (hN : N ≤ infR) : fne (some N) (some N) = false := by
  have := fne_rk false false hN hN
  rw [wd_false] at this
  rw [this]; simp
theorem lesser_is {R Q : Nat} (hR : R ≤ infR) (hQ : Q ≤ infR) : minO (some R) (some Q) = if flt (some Q) (some R) = true then Q else R := by
  have ho : orderW R Q = cmpI (plI false R) (plI false Q) := by
    unfold orderW
    have a := placeW_wd false hR
    have b := placeW_wd false hQ
    rw [wd_false] at a b
    rw [a, b]
  have hm : minO (some R) (some Q) = if orderW R Q > 0 then Q else R := by
    unfold minO
    simp only [fne_w hR, fne_w hQ, Bool.false_eq_true, or_self, if_false]
  rw [hm, ho, plI_cmp, flt_w hQ hR]
  simp only [decide_eq_true_eq]
  repeat' split
  all_goals (first | rfl | omega)
theorem greater_is {R Q : Nat} (hR : R ≤ infR) (hQ : Q ≤ infR) : maxO (some R) (some Q) = if fgt (some Q) (some R) = true then Q else R := by
  have ho : orderW R Q = cmpI (plI false R) (plI false Q) := by
    unfold orderW
    have a := placeW_wd false hR
    have b := placeW_wd false hQ
    rw [wd_false] at a b
    rw [a, b]
  have hm : maxO (some R) (some Q) = if orderW R Q < 0 then Q else R := by
    unfold maxO
    simp only [fne_w hR, fne_w hQ, Bool.false_eq_true, or_self, if_false]
  rw [hm, ho, plI_cmp, fgt_w hQ hR]
  simp only [decide_eq_true_eq]
  repeat' split
  all_goals (first | rfl | omega)
theorem lesser_le {R Q : Nat} (hR : R ≤ infR) (hQ : Q ≤ infR) : minO (some R) (some Q) ≤ infR := by
  rw [lesser_is hR hQ]; split <;> assumption
theorem twice_is {R : Nat} (hR : R ≤ infR) : ∃ N, N ≤ infR ∧ fmul (some twoW) (some R) = some N := by
  rw [fmul_comm']
  obtain ⟨N, h1, h2, _⟩ := mul_at false hR (show twoW < infR by rw [infR_eq]; decide) (by decide)
  rw [wd_false, wd_false] at h2
  exact ⟨N, h1, h2⟩
theorem twice_is' {R : Nat} (hR : R ≤ infR) : ∃ N, N ≤ infR ∧ fmul (some R) (some twoW) = some N := by
  rw [fmul_comm']; exact twice_is hR
/-- The lesser, the greater of two floats, as the reference takes them. -/
def lessO (x y : Option Nat) : Option Nat := if flt y x = true then y else x
def moreO (x y : Option Nat) : Option Nat := if fgt y x = true then y else x
theorem lim1_pos {R Q : Nat} (hR : R ≤ infR) (hQ : Q ≤ infR) : limO 1 (some R) (some Q) = lessO (some R) (some Q) := by
  show some (minO (some R) (some Q)) = _
  rw [lesser_is hR hQ]
  unfold lessO
  split <;> rfl
theorem lim2_pos {R Q : Nat} (hR : R ≤ infR) (hQ : Q ≤ infR) : limO 2 (some R) (some Q) = moreO (lessO (fmul (some twoW) (some R)) (some Q)) (lessO (some R) (fmul (some twoW) (some Q))) := by
  obtain ⟨A, hA, eA⟩ := twice_is hR
  obtain ⟨B, hB, eB⟩ := twice_is hQ
  show some (maxO (some (minO (fmul (some twoW) (some R)) (some Q))) (some (minO (some R) (fmul (some twoW) (some Q))))) = _
  rw [eA, eB, greater_is (lesser_le hA hQ) (lesser_le hR hB), lesser_is hA hQ, lesser_is hR hB]
  unfold moreO lessO
  have p : ∀ (c : Bool) (x y : Nat), (if c = true then some x else some y) = some (if c = true then x else y) := fun c x y => by cases c <;> rfl
  rw [p, p, p]
/-! ### Lengths -/
theorem canon_pos {R : Nat} (hR : R ≤ infR) : canonF (some R) = R := by
  have hi := infR_eq
  rw [canonR_is (by omega)]
  unfold canonR
  rw [show R % 9223372036854775808 = R by omega, if_neg (by omega)]
  split <;> omega
theorem canon_none : canonF none = qn := rfl
theorem len_word (a : W) : lenF a = qn ∨ lenF a ≤ infR := by
  unfold lenF
  generalize threeO _ _ _ = x
  rw [fsqrt_is]
  cases hd : f64.read x with
  | nan s t => exact .inl rfl
  | infinity s =>
    cases s
    · refine .inr ?_
      show canonF (some (f64.write (.infinity false))) ≤ infR
      rw [write_inf, wd_false, canon_pos (Nat.le_refl _)]
      exact Nat.le_refl _
    · exact .inl rfl
  | number s m e =>
    have key : ∀ d : Option Ieee.Datum, (d = none ∨ (∃ t i, d = some (.number t 0 i)) ∨ ∃ k i, d = some (.number false k i)) → (canonF (d.map f64.write) = qn ∨ canonF (d.map f64.write) ≤ infR) := by
      rintro d (rfl | ⟨t, i, rfl⟩ | ⟨k, i, rfl⟩)
      · exact .inl rfl
      · refine .inr ?_
        show canonF (some (f64.write (.number t 0 i))) ≤ infR
        rw [write_num, nearest_sign, nearest_zero, show f64.word false 0 = 0 from wd_false 0, canonR_is (by cases t <;> decide)]
        unfold canonR
        rw [mag_wd t (Nat.zero_le _), if_neg (by omega), if_pos rfl]
        exact Nat.zero_le _
      · refine .inr ?_
        show canonF (some (f64.write (.number false k i))) ≤ infR
        rw [write_num, canon_pos (nearest_le k i)]
        exact nearest_le k i
    refine key _ ?_
    unfold Ieee.Datum.root
    by_cases h0 : m = 0
    · simp only [h0, if_true]
      exact .inr (.inl ⟨_, _, rfl⟩)
    · simp only [h0, if_false]
      cases s
      · exact .inr (.inr ⟨_, _, rfl⟩)
      · exact .inl rfl
theorem qn_nan : nanB qn := ⟨by decide, by show f64.infRung < _; decide⟩
/-- A length by which one may divide. -/
theorem unit_test (a : W) : (fgt (some (lenF a)) (some 0) && !fgt (some (lenF a)) (some 9218868437227405311)) = decide (lenF a ≠ 0 ∧ lenF a < infR) := by
  have hi := infR_eq
  rcases len_word a with h | h
  · rw [h]
    unfold fgt
    rw [(nan_cmp qn_nan _).1]
    exact (decide_eq_false (by rw [hi]; decide)).symm
  · generalize lenF a = l at *
    rw [fgt_w h (Nat.zero_le _), fgt_w h (by rw [hi]; decide)]
    rw [Bool.eq_iff_iff]
    simp only [Bool.and_eq_true, Bool.not_eq_true', decide_eq_true_eq, decide_eq_false_iff_not]
    omega
def classR (b : Nat) : Int := if b % 9223372036854775808 = 0 then 0 else if b % 9223372036854775808 < 4503599627370496 then 1 else if b % 9223372036854775808 < infR then 2 else if b % 9223372036854775808 = infR then 3 else 4
end Go.Proofs.YthoofdnnfahhaaaGreatDoor
