/- Floats by sign and rung: what a change of sign does. No condition. -/
import Derived.Test.YtgoljofmbidkfaaGreatDoorH
namespace Go.Proofs.YtgoljofmbidkfaaGreatDoor
open Go Go.Eng
set_option maxRecDepth 100000
set_option linter.unusedSimpArgs false
set_option linter.unusedVariables false

theorem xor_top {R : Nat} (h : R < 2 ^ 63) : R ^^^ 2 ^ 63 = 2 ^ 63 + R := by
  apply Nat.eq_of_testBit_eq
  intro i
  rw [Nat.testBit_xor, Nat.testBit_two_pow]
  rcases Nat.lt_trichotomy i 63 with h1 | h1 | h1
  · have h2 : ¬ 63 = i := by omega
    rw [Nat.testBit_two_pow_add_gt h1]
    simp [h2]
  · subst h1
    rw [Nat.testBit_two_pow_add_eq, Nat.testBit_lt_two_pow h]
    simp
  · have h2 : R < 2 ^ i := Nat.lt_trans h (Nat.pow_lt_pow_right (by decide) h1)
    have h3 : 2 ^ 63 + R < 2 ^ i := by
      have : 2 ^ 64 ≤ 2 ^ i := Nat.pow_le_pow_right (by decide) h1
      omega
    have h4 : ¬ 63 = i := by omega
    rw [Nat.testBit_lt_two_pow h2, Nat.testBit_lt_two_pow h3]
    simp [h4]
abbrev wd (s : Bool) (R : Nat) : Nat := f64.word s R
theorem wd_true (R : Nat) : wd true R = 2 ^ 63 + R := rfl
theorem wd_false (R : Nat) : wd false R = R := rfl
theorem neg_wd (s : Bool) {R : Nat} (h : R < 2 ^ 63) : Op.negFloat .f64 (wd s R) = wd (!s) R := by
  cases s
  · show R ^^^ 2 ^ 63 = 2 ^ 63 + R
    exact xor_top h
  · show (2 ^ 63 + R) ^^^ 2 ^ 63 = R
    rw [← xor_top h, Nat.xor_assoc, Nat.xor_self, Nat.xor_zero]
abbrev infR : Nat := f64.infRung
theorem infR_eq : infR = 9218868437227405312 := by decide
/-- What sign and rung stand for. -/
def dat (s : Bool) (R : Nat) : Ieee.Datum :=
  if R < f64.binade then .number s R f64.leastPlace
  else if R < infR then .number s (f64.binade + R % f64.binade) (f64.leastPlace + (R / f64.binade - 1 : Nat))
  else if R = infR then .infinity s
  else .nan s (R - infR)
theorem read_wd (s : Bool) {R : Nat} (h : R < 2 ^ 63) : f64.read (wd s R) = dat s R := by
  have e1 : wd s R / f64.signWeight % 2 = s.toNat := by
    have : f64.signWeight = 2 ^ 63 := by decide
    rw [this]
    cases s
    · rw [wd_false]; simp; omega
    · rw [wd_true]; simp; omega
  have e2 : wd s R % f64.signWeight = R := by
    have : f64.signWeight = 2 ^ 63 := by decide
    rw [this]
    cases s
    · rw [wd_false]; omega
    · rw [wd_true]; omega
  unfold Ieee.Format.read
  simp only [e1, e2]
  cases s <;> rfl
theorem dat_opp (s : Bool) (R : Nat) : (dat s R).opposite = dat (!s) R := by
  unfold dat
  repeat' split
  all_goals rfl
theorem nearest_signF (f : Ieee.Format) (s : Bool) (m : Nat) (e : Int) : f.nearest s m e = f.word s (f.nearest false m e) := by
  unfold Ieee.Format.nearest
  split
  · rfl
  · rfl
theorem nearest_leF (f : Ieee.Format) (m : Nat) (e : Int) : f.nearest false m e ≤ f.infRung := by
  unfold Ieee.Format.nearest
  split
  · exact Nat.zero_le _
  · exact Nat.min_le_right _ _
theorem nearest_sign (s : Bool) (m : Nat) (e : Int) : f64.nearest s m e = wd s (f64.nearest false m e) := nearest_signF f64 s m e
theorem nearest_le (m : Nat) (e : Int) : f64.nearest false m e ≤ infR := nearest_leF f64 m e
theorem opp_opp (a : Ieee.Datum) : a.opposite.opposite = a := by cases a <;> simp [Ieee.Datum.opposite]
theorem product_opp_opp (a b : Ieee.Datum) : a.opposite.product b.opposite = a.product b := by
  cases a <;> cases b <;> simp [Ieee.Datum.opposite, Ieee.Datum.product]
theorem product_opp (a b : Ieee.Datum) : a.opposite.product b = (a.product b).map (·.opposite) := by
  cases a <;> cases b <;> simp [Ieee.Datum.opposite, Ieee.Datum.product] <;> split <;> simp [Ieee.Datum.opposite]
theorem product_comm (a b : Ieee.Datum) : a.product b = b.product a := by
  cases a <;> cases b <;> simp [Ieee.Datum.product, Bool.xor_comm, Nat.mul_comm, Int.add_comm]
theorem quotient_opp (k : Nat) (a b : Ieee.Datum) : a.opposite.quotient k b = (a.quotient k b).map (·.opposite) := by
  cases a <;> cases b <;> simp only [Ieee.Datum.opposite, Ieee.Datum.quotient, Option.map_none, Option.map_some, Bool.not_xor]
  rename_i s m i t n j
  by_cases hn : n = 0
  · by_cases hm : m = 0 <;> simp [hn, hm, Ieee.Datum.opposite]
  · simp [hn, Ieee.Datum.opposite]
theorem signed_not (s : Bool) (m k : Nat) : Ieee.signed (!s) m k = -Ieee.signed s m k := by cases s <;> simp [Ieee.signed]
theorem sum_opp (a b : Ieee.Datum) : (a.sum b = none ∧ a.opposite.sum b.opposite = none) ∨
    ∃ d, a.sum b = some d ∧ (a.opposite.sum b.opposite = some d.opposite ∨ ∃ s s' e, d = .number s 0 e ∧ a.opposite.sum b.opposite = some (.number s' 0 e)) := by
  cases a with
  | nan => left; cases b <;> simp [Ieee.Datum.opposite, Ieee.Datum.sum]
  | infinity s =>
    cases b with
    | nan => left; simp [Ieee.Datum.opposite, Ieee.Datum.sum]
    | infinity t =>
      by_cases h : s = t
      · right; exact ⟨.infinity s, by simp [Ieee.Datum.sum, h], .inl (by simp [Ieee.Datum.opposite, Ieee.Datum.sum, h])⟩
      · left; simp [Ieee.Datum.opposite, Ieee.Datum.sum, h]
    | number t n j => right; exact ⟨.infinity s, rfl, .inl rfl⟩
  | number s m i =>
    cases b with
    | nan => left; simp [Ieee.Datum.opposite, Ieee.Datum.sum]
    | infinity t => right; exact ⟨.infinity t, rfl, .inl rfl⟩
    | number t n j =>
      right
      refine ⟨_, rfl, ?_⟩
      simp only [Ieee.Datum.opposite, Ieee.Datum.sum, signed_not]
      generalize Ieee.signed s m (i - min i j).toNat = x
      generalize Ieee.signed t n (j - min i j).toNat = y
      by_cases h : x + y = 0
      · right
        have h' : -x + -y = 0 := by omega
        exact ⟨s && t, !s && !t, min i j, by simp [h], by simp [h']⟩
      · left
        have h' : ¬ -x + -y = 0 := by omega
        rw [if_neg h, if_neg h']
        congr 2
        · by_cases h2 : x + y < 0
          · have : ¬ -x + -y < 0 := by omega
            simp [h2, this]
          · have : -x + -y < 0 := by omega
            simp [h2, this]
        · omega
theorem cmp_eq (a b : Int) : compare a b = .eq ↔ a = b := by
  show compareOfLessAndEq a b = .eq ↔ a = b
  unfold compareOfLessAndEq
  split
  · simp; omega
  · split <;> simp_all
theorem order_self (d : Ieee.Datum) (h : d.isNaN = false) : d.order d = some .eq := by
  cases d with
  | nan => exact nomatch h
  | infinity s => cases s <;> rfl
  | number s m i =>
    simp only [Ieee.Datum.order]
    rw [(cmp_eq _ _).mpr rfl]
theorem signed_zero (s : Bool) (m k : Nat) : Ieee.signed s m k = 0 ↔ m = 0 := by
  have h : m <<< k = 0 ↔ m = 0 := by
    rw [Nat.shiftLeft_eq]
    have := Nat.two_pow_pos k
    constructor
    · intro h
      rcases Nat.mul_eq_zero.mp h with h | h
      · exact h
      · omega
    · intro h; subst h; simp
  cases s
  · simp only [Ieee.signed, Bool.false_eq_true, if_false]
    rw [← h]; omega
  · simp only [Ieee.signed, if_true]
    rw [← h]; omega
theorem order_zero (d : Ieee.Datum) (e : Int) : d.order (.number false 0 e) = some .eq ↔ d.isZero = true := by
  cases d with
  | nan => simp [Ieee.Datum.order, Ieee.Datum.isZero]
  | infinity s => cases s <;> simp [Ieee.Datum.order, Ieee.Datum.isZero]
  | number s m i =>
    simp only [Ieee.Datum.order, Option.some.injEq, cmp_eq]
    have : Ieee.signed false 0 (e - min i e).toNat = 0 := (signed_zero _ _ _).mpr rfl
    rw [this, signed_zero]
    cases m <;> simp [Ieee.Datum.isZero]
theorem binade_eq : f64.binade = 4503599627370496 := by decide
theorem dat_nan (s : Bool) {R : Nat} (h : R ≤ infR) : (dat s R).isNaN = false := by
  unfold dat
  split
  · rfl
  · split
    · rfl
    · split
      · rfl
      · exact absurd h (by omega)
theorem dat_zero (s : Bool) (R : Nat) : (dat s R).isZero = true ↔ R = 0 := by
  have hb := binade_eq
  unfold dat
  split
  · cases R <;> simp [Ieee.Datum.isZero]
  · rename_i h1
    have hR : R ≠ 0 := by rintro rfl; omega
    split
    · have : f64.binade + R % f64.binade ≠ 0 := by omega
      generalize f64.binade + R % f64.binade = m at *
      cases m with
      | zero => exact absurd rfl this
      | succ m => simp [Ieee.Datum.isZero, hR]
    · split
      · simp only [Ieee.Datum.isZero]; simp [hR]
      · simp only [Ieee.Datum.isZero]; simp [hR]
def cw (s : Bool) (R : Nat) : Nat := if R = 0 then 0 else wd s R
theorem fcmp_wd (s t : Bool) {R Q : Nat} (hR : R < 2 ^ 63) (hQ : Q < 2 ^ 63) : fcmp (some (wd s R)) (some (wd t Q)) = (dat s R).order (dat t Q) := by
  show (f64.read _).order (f64.read _) = _
  rw [read_wd s hR, read_wd t hQ]
theorem dat_0 : dat false 0 = .number false 0 f64.leastPlace := rfl
theorem canon_wd (s : Bool) {R : Nat} (h : R ≤ infR) : canonF (some (wd s R)) = cw s R := by
  have hi := infR_eq
  have h63 : R < 2 ^ 63 := by omega
  have e1 : fne (some (wd s R)) (some (wd s R)) = false := by
    unfold fne
    rw [fcmp_wd s s h63 h63, order_self _ (dat_nan s h)]
    rfl
  unfold canonF
  rw [if_neg (by rw [e1]; decide)]
  have e2 : feq (some (wd s R)) (some 0) = true ↔ R = 0 := by
    unfold feq
    rw [show (0 : Nat) = wd false 0 from rfl, fcmp_wd s false h63 (by decide), dat_0, beq_iff_eq, order_zero, dat_zero]
    rfl
  by_cases hz : R = 0
  · rw [if_pos (e2.mpr hz), cw, if_pos hz]
  · rw [if_neg (fun h => hz (e2.mp h)), cw, if_neg hz]
    rfl
/-- A float turned to its opposite; no nought with a sign. -/
def negF (a : Nat) : Nat := canonF (fneg (some a))
theorem negF_cw (s : Bool) {R : Nat} (h : R ≤ infR) : negF (cw s R) = cw (!s) R := by
  have hi := infR_eq
  unfold negF cw
  by_cases hz : R = 0
  · rw [if_pos hz, if_pos hz]
    show canonF (some (Op.negFloat .f64 (wd false 0))) = 0
    rw [neg_wd false (by decide), canon_wd _ (Nat.zero_le _)]
    rfl
  · rw [if_neg hz, if_neg hz]
    show canonF (some (Op.negFloat .f64 (wd s R))) = _
    rw [neg_wd s (by omega), canon_wd _ h, cw, if_neg hz]
/-- What may stand in a vector: a float that is no NaN, no -0. -/
def Good (a : Nat) : Prop := ∃ s R, R ≤ infR ∧ a = cw s R
theorem Good.neg {a : Nat} (h : Good a) : Good (negF a) := by
  obtain ⟨s, R, h1, rfl⟩ := h
  exact ⟨!s, R, h1, negF_cw s h1⟩
theorem Good.neg_neg {a : Nat} (h : Good a) : negF (negF a) = a := by
  obtain ⟨s, R, h1, rfl⟩ := h
  rw [negF_cw s h1, negF_cw _ h1, Bool.not_not]
theorem write_opp (d : Ieee.Datum) (h : d.isNaN = false) : ∃ s R, R ≤ infR ∧ f64.write d = wd s R ∧ f64.write d.opposite = wd (!s) R := by
  cases d with
  | nan => exact nomatch h
  | infinity s => exact ⟨s, infR, Nat.le_refl _, rfl, rfl⟩
  | number s m e => exact ⟨s, f64.nearest false m e, nearest_le m e, nearest_sign s m e, nearest_sign (!s) m e⟩
/-- The canonical float of a datum that is no NaN. -/
theorem canon_write (d : Ieee.Datum) (h : d.isNaN = false) : Good (canonF (some (f64.write d))) ∧ canonF (some (f64.write d.opposite)) = negF (canonF (some (f64.write d))) := by
  obtain ⟨s, R, h1, h2, h3⟩ := write_opp d h
  rw [h2, h3, canon_wd s h1, canon_wd _ h1, negF_cw s h1]
  exact ⟨⟨s, R, h1, rfl⟩, rfl⟩
theorem read_neg {a : Nat} (h : Good a) : (a = 0 ∧ negF a = 0) ∨ f64.read (negF a) = (f64.read a).opposite := by
  obtain ⟨s, R, h1, rfl⟩ := h
  have hi := infR_eq
  rw [negF_cw s h1]
  by_cases hz : R = 0
  · left
    subst hz
    exact ⟨rfl, rfl⟩
  · right
    rw [cw, if_neg hz, cw, if_neg hz, read_wd _ (by omega), read_wd _ (by omega), dat_opp]
theorem sq_neg {a : Nat} (h : Good a) : fmul (some (negF a)) (some (negF a)) = fmul (some a) (some a) := by
  rcases read_neg h with ⟨h1, h2⟩ | h1
  · rw [h1] at h2 ⊢; rw [h2]
  · show ((f64.read (negF a)).product (f64.read (negF a))).map _ = ((f64.read a).product (f64.read a)).map _
    rw [h1, product_opp_opp]
theorem nan_quotient {k : Nat} {a b d : Ieee.Datum} (h : a.quotient k b = some d) : d.isNaN = false := by
  cases a with
  | nan => simp [Ieee.Datum.quotient] at h
  | infinity s =>
    cases b with
    | nan => simp [Ieee.Datum.quotient] at h
    | infinity t => simp [Ieee.Datum.quotient] at h
    | number t n j => simp only [Ieee.Datum.quotient, Option.some.injEq] at h; subst h; rfl
  | number s m i =>
    cases b with
    | nan => simp [Ieee.Datum.quotient] at h
    | infinity t => simp only [Ieee.Datum.quotient, Option.some.injEq] at h; subst h; rfl
    | number t n j =>
      simp only [Ieee.Datum.quotient] at h
      by_cases hn : n = 0
      · by_cases hm : m = 0
        · simp [hn, hm] at h
        · simp [hn, hm] at h; subst h; rfl
      · simp [hn] at h; subst h; rfl
theorem canon_zero (d : Ieee.Datum) (h : d.isZero = true) : canonF (some (f64.write d)) = 0 := by
  cases d with
  | nan => exact nomatch h
  | infinity s => exact nomatch h
  | number s m e =>
    have hm : m = 0 := by
      cases m with
      | zero => rfl
      | succ m => exact nomatch h
    subst hm
    show canonF (some (f64.nearest s 0 e)) = 0
    rw [nearest_sign, show f64.nearest false 0 e = 0 from rfl, canon_wd _ (Nat.zero_le _)]
    rfl
theorem div_neg {a : Nat} (l : Nat) (h : Good a) (h0 : fdiv (some a) (some l) ≠ none) : canonF (fdiv (some (negF a)) (some l)) = negF (canonF (fdiv (some a) (some l))) ∧ Good (canonF (fdiv (some a) (some l))) := by
  have e : ∀ x, fdiv (some x) (some l) = ((f64.read x).quotient (f64.fractionBits + 2) (f64.read l)).map f64.write := fun _ => rfl
  rw [e] at h0
  rw [e, e]
  cases hq : (f64.read a).quotient (f64.fractionBits + 2) (f64.read l) with
  | none => rw [hq] at h0; exact absurd rfl h0
  | some d =>
    have hd := nan_quotient hq
    obtain ⟨k1, k2⟩ := canon_write d hd
    refine ⟨?_, k1⟩
    rcases read_neg h with ⟨h1, h2⟩ | h1
    · subst h1
      rw [h2, hq]
      have hz : d.isZero = true := by
        have : f64.read 0 = .number false 0 f64.leastPlace := rfl
        rw [this] at hq
        cases hl : f64.read l with
        | nan => rw [hl] at hq; exact nomatch hq
        | infinity t => rw [hl] at hq; injection hq with hq; subst hq; rfl
        | number t n j =>
          rw [hl] at hq
          simp only [Ieee.Datum.quotient] at hq
          by_cases hn : n = 0
          · simp [hn] at hq
          · simp [hn] at hq; subst hq; rfl
      show canonF (some (f64.write d)) = negF (canonF (some (f64.write d)))
      rw [canon_zero d hz]
      exact h2.symm
    · rw [h1, quotient_opp, hq]
      exact k2
/-- The same datum, but for the sign of a nought. -/
def EqZ (d d' : Ieee.Datum) : Prop := d = d' ∨ ∃ s s' e e', d = .number s 0 e ∧ d' = .number s' 0 e'
theorem EqZ.canon {d d' : Ieee.Datum} (h : EqZ d d') : canonF (some (f64.write d)) = canonF (some (f64.write d')) := by
  rcases h with rfl | ⟨s, s', e, e', rfl, rfl⟩
  · rfl
  · rw [canon_zero _ rfl, canon_zero _ rfl]
theorem sum_zero_sign (s s' : Bool) (e : Int) (b : Ieee.Datum) : ((Ieee.Datum.number s 0 e).sum b = none ∧ (Ieee.Datum.number s' 0 e).sum b = none) ∨
    ∃ d d', (Ieee.Datum.number s 0 e).sum b = some d ∧ (Ieee.Datum.number s' 0 e).sum b = some d' ∧ EqZ d d' := by
  cases b with
  | nan => left; exact ⟨rfl, rfl⟩
  | infinity t => right; exact ⟨_, _, rfl, rfl, .inl rfl⟩
  | number t n j =>
    right
    refine ⟨_, _, rfl, rfl, ?_⟩
    have z : ∀ s k, Ieee.signed s 0 k = 0 := fun s k => (signed_zero s 0 k).mpr rfl
    simp only [z]
    by_cases h : (0 : Int) + Ieee.signed t n (j - min e j).toNat = 0
    · rw [if_pos h, if_pos h, h]
      exact .inr ⟨_, _, _, _, rfl, rfl⟩
    · rw [if_neg h, if_neg h]
      exact .inl rfl
theorem EqZ.trans {a b c : Ieee.Datum} (h : EqZ a b) (k : EqZ b c) : EqZ a c := by
  rcases h with rfl | ⟨s, s', e, e', rfl, rfl⟩
  · exact k
  · rcases k with rfl | ⟨t, t', f, f', h1, rfl⟩
    · exact .inr ⟨_, _, _, _, rfl, rfl⟩
    · exact .inr ⟨_, _, _, _, rfl, rfl⟩
theorem EqZ.symm {a b : Ieee.Datum} (h : EqZ a b) : EqZ b a := by
  rcases h with rfl | ⟨s, s', e, e', rfl, rfl⟩
  · exact .inl rfl
  · exact .inr ⟨_, _, _, _, rfl, rfl⟩
theorem sum_comm (a b : Ieee.Datum) : a.sum b = b.sum a := by
  cases a with
  | nan => cases b <;> rfl
  | infinity s =>
    cases b with
    | nan => rfl
    | infinity t =>
      simp only [Ieee.Datum.sum]
      by_cases h : s = t
      · subst h; rfl
      · rw [if_neg h, if_neg (fun h' => h h'.symm)]
    | number t n j => rfl
  | number s m i =>
    cases b with
    | nan => rfl
    | infinity t => rfl
    | number t n j =>
      simp only [Ieee.Datum.sum]
      rw [show min j i = min i j by omega, Int.add_comm, Bool.and_comm]
/-- The same datum, but for a nought's sign; the place is the same. -/
def ZS (x y : Ieee.Datum) : Prop := x = y ∨ ∃ s s' e, x = .number s 0 e ∧ y = .number s' 0 e
theorem sum_ZS {x x' : Ieee.Datum} (h : ZS x x') (b : Ieee.Datum) : (x.sum b = none ∧ x'.sum b = none) ∨ ∃ d d', x.sum b = some d ∧ x'.sum b = some d' ∧ EqZ d d' := by
  rcases h with rfl | ⟨s, s', e, rfl, rfl⟩
  · cases hs : x.sum b with
    | none => exact .inl ⟨rfl, rfl⟩
    | some d => exact .inr ⟨d, d, rfl, rfl, .inl rfl⟩
  · exact sum_zero_sign s s' e b
theorem sum_ZS2 {x x' y y' : Ieee.Datum} (h : ZS x x') (k : ZS y y') : (x.sum y = none ∧ x'.sum y' = none) ∨ ∃ d d', x.sum y = some d ∧ x'.sum y' = some d' ∧ EqZ d d' := by
  rcases sum_ZS h y with ⟨h1, h2⟩ | ⟨d, d', h1, h2, h3⟩
  · rcases sum_ZS k x' with ⟨k1, k2⟩ | ⟨e, e', k1, k2, k3⟩
    · exact .inl ⟨h1, by rw [sum_comm]; exact k2⟩
    · rw [sum_comm, h2] at k1; exact nomatch k1
  · rcases sum_ZS k x' with ⟨k1, k2⟩ | ⟨e, e', k1, k2, k3⟩
    · rw [sum_comm, h2] at k1; exact nomatch k1
    · rw [sum_comm, h2] at k1
      injection k1 with k1
      subst k1
      exact .inr ⟨d, e', h1, by rw [sum_comm]; exact k2, h3.trans k3⟩
theorem read_negZ {a : Nat} (h : Good a) : ZS (f64.read (negF a)) (f64.read a).opposite := by
  rcases read_neg h with ⟨h1, h2⟩ | h1
  · rw [h2, h1]
    exact .inr ⟨false, true, f64.leastPlace, rfl, rfl⟩
  · exact .inl h1
theorem ZS.opp {x y : Ieee.Datum} (h : ZS x y) : ZS x.opposite y.opposite := by
  rcases h with rfl | ⟨s, s', e, rfl, rfl⟩
  · exact .inl rfl
  · exact .inr ⟨_, _, _, rfl, rfl⟩
theorem nan_sum {a b d : Ieee.Datum} (h : a.sum b = some d) : d.isNaN = false := by
  cases a with
  | nan => exact nomatch h
  | infinity s =>
    cases b with
    | nan => exact nomatch h
    | infinity t =>
      simp only [Ieee.Datum.sum] at h
      split at h
      · injection h with h; subst h; rfl
      · exact nomatch h
    | number t n j => injection h with h; subst h; rfl
  | number s m i =>
    cases b with
    | nan => exact nomatch h
    | infinity t => injection h with h; subst h; rfl
    | number t n j => injection h with h; subst h; rfl
theorem negF_0 : negF 0 = 0 := negF_cw false (R := 0) (Nat.zero_le _)
theorem sub_neg {a b : Nat} (ha : Good a) (hb : Good b) : (fsub (some a) (some b) = none ∧ fsub (some (negF a)) (some (negF b)) = none) ∨
    (canonF (fsub (some (negF a)) (some (negF b))) = negF (canonF (fsub (some a) (some b))) ∧ Good (canonF (fsub (some a) (some b)))) := by
  have e : ∀ x y, fsub (some x) (some y) = ((f64.read x).sum (f64.read y).opposite).map f64.write := fun _ _ => rfl
  rw [e, e]
  rcases sum_opp (f64.read a) (f64.read b).opposite with ⟨h1, h2⟩ | ⟨d, h1, h2⟩
  · rcases sum_ZS2 (read_negZ ha) (read_negZ hb).opp with ⟨k1, k2⟩ | ⟨d, d', k1, k2, k3⟩
    · left; rw [h1, k1]; exact ⟨rfl, rfl⟩
    · rw [h2] at k2; exact nomatch k2
  · right
    have hd := nan_sum h1
    obtain ⟨c1, c2⟩ := canon_write d hd
    rw [h1]
    refine ⟨?_, c1⟩
    rcases sum_ZS2 (read_negZ ha) (read_negZ hb).opp with ⟨k1, k2⟩ | ⟨d1, d2, k1, k2, k3⟩
    · rcases h2 with h2 | ⟨_, _, _, _, h2⟩ <;> rw [h2] at k2 <;> exact nomatch k2
    · rw [k1]
      show canonF (some (f64.write d1)) = negF (canonF (some (f64.write d)))
      rw [k3.canon]
      rcases h2 with h2 | ⟨s, s', e', rfl, h2⟩
      · rw [h2] at k2; injection k2 with k2; subst k2
        exact c2
      · rw [h2] at k2; injection k2 with k2; subst k2
        rw [canon_zero _ rfl, canon_zero _ rfl, negF_0]
theorem wrap_u {n : Int} (h1 : 0 ≤ n) (h2 : n < 18446744073709551616) : IntKind.u64.wrap n = n := by
  have key : ∀ m : Int, n % (2 ^ 64 : Int) = m → IntKind.u64.wrap n = if (false && decide (m ≥ (2 ^ 63 : Int))) = true then m - 2 ^ 64 else m := fun m h => by rw [← h]; rfl
  rw [key _ (Int.emod_eq_of_lt h1 (by omega)), if_neg (by simp)]
theorem cmpI_self (a : Int) : cmpI a a = 0 := by
  unfold cmpI
  rw [if_neg (by omega), if_neg (by omega)]
/-- Numbers that are not below nought stand as their bits do. -/
theorem cmpW_pos {R Q : Nat} (hR : R ≤ infR) (hQ : Q ≤ infR) : cmpW R Q < 0 ↔ R < Q := by
  have hi := infR_eq
  have e1 : magW R = (R : Int) * 2 := wrap_u (by omega) (by omega)
  have e2 : magW Q = (Q : Int) * 2 := wrap_u (by omega) (by omega)
  unfold cmpW or2
  rw [e1, e2]
  rcases Nat.lt_trichotomy R Q with h | h | h
  · have : cmpI ((R : Int) * 2) ((Q : Int) * 2) = -1 := by unfold cmpI; rw [if_pos (by omega)]
    rw [this]; simp [h]
  · subst h
    rw [cmpI_self]
    simp [orderW, cmpI_self]
  · have : cmpI ((R : Int) * 2) ((Q : Int) * 2) = 1 := by unfold cmpI; rw [if_neg (by omega), if_pos (by omega)]
    have h' : ¬ R < Q := by omega
    rw [this]; simp [h']
/-- The order does not matter. -/
theorem threeF_swap12 {a b c : Nat} (ha : a ≤ infR) (hb : b ≤ infR) (hc : c ≤ infR) : threeF a b c = threeF b a c := by
  unfold threeF
  congr 1
  unfold sort3
  simp only [cmpW_pos ha hb, cmpW_pos hb ha, cmpW_pos hc ha, cmpW_pos hc hb]
  by_cases h1 : a < b <;> by_cases h2 : b < a <;> by_cases h3 : c < a <;> by_cases h4 : c < b <;> simp [h1, h2, h3, h4] <;> omega
theorem threeF_swap23 {a b c : Nat} (ha : a ≤ infR) (hb : b ≤ infR) (hc : c ≤ infR) : threeF a b c = threeF a c b := by
  unfold threeF
  congr 1
  unfold sort3
  simp only [cmpW_pos ha hb, cmpW_pos hb ha, cmpW_pos hc ha, cmpW_pos hc hb, cmpW_pos hb hc, cmpW_pos ha hc]
  by_cases h1 : b < a <;> by_cases h2 : c < a <;> by_cases h3 : c < b <;> by_cases h4 : b < c <;> simp [h1, h2, h3, h4] <;> omega
/-- The square of a good float: not below nought, or a NaN. -/
theorem sq_pos {a : Nat} (h : Good a) : ∃ R, R ≤ infR ∧ fmul (some a) (some a) = some R := by
  obtain ⟨s, R, h1, rfl⟩ := h
  have hi := infR_eq
  have key : ∀ d : Ieee.Datum, d.isNaN = false → ∃ Q, Q ≤ infR ∧ (d.product d).map f64.write = some Q := by
    intro d hd
    cases d with
    | nan => exact nomatch hd
    | infinity s => exact ⟨infR, Nat.le_refl _, by cases s <;> rfl⟩
    | number s m e =>
      refine ⟨f64.nearest false (m * m) (e + e), nearest_le _ _, ?_⟩
      show some (f64.nearest (s ^^ s) (m * m) (e + e)) = _
      rw [Bool.xor_self]
  show ∃ Q, Q ≤ infR ∧ ((f64.read (cw s R)).product (f64.read (cw s R))).map f64.write = some Q
  refine key _ ?_
  unfold cw
  split
  · exact dat_nan false (Nat.zero_le _)
  · rw [read_wd s (by omega)]; exact dat_nan s h1
/-- A vector of good floats. -/
structure GoodW (a : W) : Prop where
  x : Good a.x
  y : Good a.y
  z : Good a.z
theorem lenF_swap12 {a : W} (h : GoodW a) : lenF ⟨a.y, a.x, a.z⟩ = lenF a := by
  obtain ⟨X, hX, eX⟩ := sq_pos h.x
  obtain ⟨Y, hY, eY⟩ := sq_pos h.y
  obtain ⟨Z, hZ, eZ⟩ := sq_pos h.z
  unfold lenF
  simp only [eX, eY, eZ]
  show canonF (fsqrt (some (threeF Y X Z))) = canonF (fsqrt (some (threeF X Y Z)))
  rw [threeF_swap12 hY hX hZ]
theorem lenF_swap23 {a : W} (h : GoodW a) : lenF ⟨a.x, a.z, a.y⟩ = lenF a := by
  obtain ⟨X, hX, eX⟩ := sq_pos h.x
  obtain ⟨Y, hY, eY⟩ := sq_pos h.y
  obtain ⟨Z, hZ, eZ⟩ := sq_pos h.z
  unfold lenF
  simp only [eX, eY, eZ]
  show canonF (fsqrt (some (threeF X Z Y))) = canonF (fsqrt (some (threeF X Y Z)))
  rw [threeF_swap23 hX hZ hY]
theorem lenF_neg1 {a : W} (h : GoodW a) : lenF ⟨negF a.x, a.y, a.z⟩ = lenF a := by
  unfold lenF
  simp only [sq_neg h.x]
theorem u64_nat (k : Int) : ∃ a : Nat, IntKind.u64.wrap k = a ∧ a < 18446744073709551616 := by
  have h1 : IntKind.u64.wrap k = k % 18446744073709551616 := by
    unfold IntKind.wrap
    rfl
  exact ⟨(k % 18446744073709551616).toNat, by rw [h1]; omega, by omega⟩
end Go.Proofs.YtgoljofmbidkfaaGreatDoor
