/- Floats and the numbers that they stand for: the operations on words. No condition. -/
import Derived.Test.YtbfdbpmdibjanaaDoorS
import Derived.Test.YtbfdbpmdibjanaaDoorFa
namespace Go.Proofs.YtbfdbpmdibjanaaDoor
open Go Go.Eng
set_option maxRecDepth 100000
set_option linter.unusedSimpArgs false
set_option linter.unusedVariables false

abbrev u53 : Rat := (2 : Rat) ^ (-53 : Int)
abbrev u54 : Rat := (2 : Rat) ^ (-54 : Int)
theorem dat_num {R : Nat} (h : R < infR) (s : Bool) : ∃ m e, dat s R = .number s m e ∧ mg m e = vR R ∧ (R ≠ 0 → m ≠ 0) := by
  have hb : f64.binade = 2 ^ 52 := by decide
  have hl : f64.leastPlace = -1074 := by decide
  unfold dat vR
  rw [hb, hl]
  by_cases h1 : R < 2 ^ 52
  · rw [if_pos h1, if_pos h1]; exact ⟨_, _, rfl, rfl, fun h => h⟩
  · rw [if_neg h1, if_neg h1, if_pos h]; exact ⟨_, _, rfl, rfl, fun _ => by omega⟩
theorem vR_0 : vR 0 = 0 := by
  unfold vR mg
  rw [if_pos (by decide), show ((0 : Nat) : Rat) = 0 from rfl, Rat.zero_mul]
theorem vR_pos {R : Nat} (h : R < infR) (h0 : R ≠ 0) : 0 < vR R := by
  obtain ⟨m, e, _, h1, h2⟩ := dat_num h false
  rw [← h1]
  exact mg_pos (h2 h0) e
theorem vR_nonneg {R : Nat} (h : R < infR) : 0 ≤ vR R := by
  by_cases h0 : R = 0
  · subst h0; rw [vR_0]; exact Rat.le_refl
  · exact Rat.le_of_lt (vR_pos h h0)
/-- A word that lies within one rounding of a number. -/
def Near (N : Nat) (x : Rat) : Prop := N < infR ∧ N ≠ 0 ∧ vR N ≤ x * (1 + u53) ∧ x * (1 - u53) ≤ vR N
def Mid (x : Rat) : Prop := (2 : Rat) ^ (-1022 : Int) ≤ x ∧ x ≤ 2 ^ (1000 : Int)
theorem u53_one : u53 * 9007199254740992 = 1 := by
  have h := two_add (-53) 53
  rw [show (-53 : Int) + 53 = 0 by decide, show (2 : Rat) ^ (53 : Int) = 9007199254740992 from (two_nat 53).trans rfl] at h
  rw [← h]; rfl
theorem u53_pos : 0 < u53 := two_pos _
theorem u53_lt : u53 < 1 := by
  have := u53_one
  have := u53_pos
  grind
theorem near_word (m : Nat) (e : Int) (h : Mid (mg m e)) : Near (f64.nearest false m e) (mg m e) := by
  have hm : m ≠ 0 := by
    rintro rfl
    have h1 := h.1
    have h2 := two_pos (-1022)
    have h3 : mg 0 e = 0 := by unfold mg; rw [show ((0 : Nat) : Rat) = 0 from rfl, Rat.zero_mul]
    rw [h3] at h1
    exact absurd h2 (Rat.not_lt.2 h1)
  obtain ⟨h1, h2⟩ := near_rel m e hm h.2 h.1
  have hf := near_fin m e hm h.2
  refine ⟨hf, fun h0 => ?_, h1, h2⟩
  have h0 : Ieee.double.nearest false m e = 0 := h0
  rw [h0, vR_0] at h2
  have hp := mg_pos hm e
  have := u53_lt
  have h4 : 0 < mg m e * (1 - u53) := Rat.mul_pos hp (by grind)
  exact absurd h4 (Rat.not_lt.2 h2)
theorem mul_near {R Q : Nat} (s t : Bool) (hR : R < infR) (hQ : Q < infR) (hM : Mid (vR R * vR Q)) : ∃ N, fmul (some (wd s R)) (some (wd t Q)) = some (wd (s ^^ t) N) ∧ Near N (vR R * vR Q) := by
  have hi := infR_eq
  obtain ⟨m, i, d1, v1, _⟩ := dat_num hR s
  obtain ⟨n, j, d2, v2, _⟩ := dat_num hQ t
  have e : fmul (some (wd s R)) (some (wd t Q)) = ((f64.read (wd s R)).product (f64.read (wd t Q))).map f64.write := rfl
  rw [e, read_wd s (by omega), read_wd t (by omega), d1, d2]
  refine ⟨f64.nearest false (m * n) (i + j), ?_, ?_⟩
  · show some (f64.nearest (s ^^ t) (m * n) (i + j)) = _
    rw [nearest_sign]
  · rw [← v1, ← v2, mg_mul] at hM ⊢
    exact near_word _ _ hM
theorem write_num (f : Ieee.Format) (s : Bool) (m : Nat) (e : Int) : f.write (.number s m e) = f.nearest s m e := rfl
theorem fdiv_is (a b : Nat) : fdiv (some a) (some b) = ((f64.read a).quotient (f64.fractionBits + 2) (f64.read b)).map f64.write := rfl
theorem fsqrt_is (a : Nat) : fsqrt (some a) = ((f64.read a).root (f64.fractionBits + 2)).map f64.write := rfl
theorem dig54 : f64.fractionBits + 2 = 54 := by decide
theorem mul_00 : fmul (some 0) (some 0) = some 0 := by
  show some (f64.nearest false 0 _) = _
  rfl
theorem lt_mul {a b c : Rat} (hc : 0 < c) (h : a < b) : a * c < b * c := Rat.mul_lt_mul_of_pos_right h hc
theorem le_mul {a b c : Rat} (hc : 0 ≤ c) (h : a ≤ b) : a * c ≤ b * c := Rat.mul_le_mul_of_nonneg_right h hc
theorem le_of_mul {a b c : Rat} (hc : 0 < c) (h : a * c ≤ b * c) : a ≤ b := Rat.not_lt.1 fun h' => Rat.not_lt.2 h (lt_mul hc h')
theorem u54_one : u54 * 18014398509481984 = 1 := by
  have h := two_add (-54) 54
  rw [show (-54 : Int) + 54 = 0 by decide, show (2 : Rat) ^ (54 : Int) = 18014398509481984 from (two_nat 54).trans rfl] at h
  rw [← h]; rfl
theorem u54_pos : 0 < u54 := two_pos _
theorem two_1022 : (2 : Rat) ^ (-1020 : Int) = 4 * 2 ^ (-1022 : Int) := by
  have h := two_add 2 (-1022)
  rw [show (2 : Int) + -1022 = -1020 by decide, show (2 : Rat) ^ (2 : Int) = 4 from (two_nat 2).trans rfl] at h
  exact h
theorem two_1000 : (2 : Rat) ^ (1000 : Int) = 2 * 2 ^ (999 : Int) := by
  have h := two_add 1 999
  rw [show (1 : Int) + 999 = 1000 by decide, show (2 : Rat) ^ (1 : Int) = 2 from (two_nat 1).trans rfl] at h
  exact h
theorem near_canon {N : Nat} {x : Rat} (h : Near N x) (s : Bool) : canonF (some (wd s N)) = cw s N := canon_wd s (Nat.le_of_lt h.1)
theorem div_near {R Q : Nat} (s : Bool) (hR : R < infR) (hQ : Q < infR) (hR0 : R ≠ 0) (hQ0 : Q ≠ 0) (h1 : (2 : Rat) ^ (-1020 : Int) * vR Q ≤ vR R) (h2 : vR R ≤ 2 ^ (999 : Int) * vR Q) :
    ∃ N, canonF (fdiv (some (wd s R)) (some Q)) = cw s N ∧ N < infR ∧ N ≠ 0 ∧ vR N * vR Q ≤ vR R * ((1 + u54) * (1 + u53)) ∧ vR R * ((1 - u54) * (1 - u53)) ≤ vR N * vR Q := by
  have hi := infR_eq
  obtain ⟨m, i, d1, v1, m0⟩ := dat_num hR false
  obtain ⟨n, j, d2, v2, n0⟩ := dat_num hQ false
  have hq0 := vR_pos hQ hQ0
  have hr0 := vR_pos hR hR0
  obtain ⟨q, e, hq, q0, k1, k2⟩ := quot_ok m n i j (m0 hR0) (n0 hQ0)
  rw [v1, v2] at k1 k2
  have u1 := u54_one
  have u2 := u54_pos
  have hM : Mid (mg q e) := by
    refine ⟨le_of_mul hq0 ?_, le_of_mul hq0 ?_⟩
    · rw [two_1022] at h1
      have h3 : vR R ≤ 2 * (vR R * (1 - u54)) := by
        have : 0 ≤ vR R * (1 - 2 * u54) := Rat.mul_nonneg (Rat.le_of_lt hr0) (by grind)
        grind
      grind
    · rw [two_1000]
      have h3 : vR R * (1 + u54) ≤ vR R * 2 := Rat.mul_le_mul_of_nonneg_left (by grind) (Rat.le_of_lt hr0)
      grind
  have hN := near_word q e hM
  have hdiv : fdiv (some (wd s R)) (some Q) = some (wd s (f64.nearest false q e)) := by
    have e1 := fdiv_is (wd s R) (wd false Q)
    rw [dig54, read_wd s (by omega), read_wd false (by omega), d2] at e1
    rw [wd_false] at e1
    rw [e1]
    cases s
    · rw [d1, hq, Option.map_some, write_num, wd_false]
    · have : dat true R = (dat false R).opposite := by rw [dat_opp]; rfl
      rw [this, quotient_opp, d1, hq, Option.map_some, Option.map_some, Ieee.Datum.opposite, write_num, nearest_sign, Bool.not_false]
  refine ⟨f64.nearest false q e, by rw [hdiv, near_canon hN], hN.1, hN.2.1, ?_, ?_⟩
  · have h3 := le_mul (Rat.le_of_lt hq0) hN.2.2.1
    have h4 := le_mul (show 0 ≤ 1 + u53 by have := u53_pos; grind) k1
    grind
  · have h3 := le_mul (Rat.le_of_lt hq0) hN.2.2.2
    have h4 := le_mul (show 0 ≤ 1 - u53 by have := u53_lt; grind) k2
    grind
theorem div_0 {Q : Nat} (hQ : Q < infR) (hQ0 : Q ≠ 0) : canonF (fdiv (some 0) (some Q)) = 0 := by
  have hi := infR_eq
  obtain ⟨n, j, d2, v2, n0⟩ := dat_num hQ false
  have e1 := fdiv_is 0 (wd false Q)
  have hn := n0 hQ0
  rw [dig54, read_wd false (by omega), d2, show f64.read 0 = .number false 0 f64.leastPlace from rfl] at e1
  rw [wd_false] at e1
  rw [e1]
  have : ∃ e, (Ieee.Datum.number false 0 f64.leastPlace).quotient 54 (.number false n j) = some (.number false 0 e) := by
    simp only [Ieee.Datum.quotient, if_neg hn, Nat.zero_shiftLeft, Nat.zero_div, Nat.zero_mod]
    exact ⟨_, rfl⟩
  obtain ⟨e, he⟩ := this
  rw [he]
  exact canon_zero _ rfl
theorem sqrt_near {R : Nat} (hR : R < infR) (h1 : (2 : Rat) ^ (-1000 : Int) ≤ vR R) (h2 : vR R ≤ 2 ^ (1000 : Int)) :
    ∃ N, canonF (fsqrt (some R)) = N ∧ N < infR ∧ N ≠ 0 ∧ vR N * vR N ≤ vR R * ((1 + u53) * ((1 + u53) * (1 + u53))) ∧ vR R * ((1 - u53) * ((1 - u53) * (1 - u53))) ≤ vR N * vR N := by
  have hi := infR_eq
  have hR0 : R ≠ 0 := by
    rintro rfl
    rw [vR_0] at h1
    exact absurd (two_pos (-1000)) (Rat.not_lt.2 h1)
  obtain ⟨m, i, d1, v1, m0⟩ := dat_num hR false
  have hr0 := vR_pos hR hR0
  obtain ⟨q, e, hq, q0, k1, k2⟩ := root_ok m i (m0 hR0)
  rw [v1] at k1 k2
  have u1 := u53_one
  have u2 := u53_pos
  have u3 := u53_lt
  have hqp := mg_pos q0 e
  have hM : Mid (mg q e) := by
    refine ⟨Rat.not_lt.1 fun h => ?_, Rat.not_lt.1 fun h => ?_⟩
    · have h3 := lt_mul hqp h
      have h4 := lt_mul (two_pos (-1022)) h
      have h5 : (2 : Rat) ^ (-1000 : Int) = 2 * 2 ^ (-1001 : Int) := by
        have h := two_add 1 (-1001)
        rw [show (1 : Int) + -1001 = -1000 by decide, show (2 : Rat) ^ (1 : Int) = 2 from (two_nat 1).trans rfl] at h
        exact h
      have h6 : (2 : Rat) ^ (-1022 : Int) * 2 ^ (-1022 : Int) ≤ 2 ^ (-1001 : Int) := by
        rw [← two_add]; exact two_le (by decide)
      have h7 : vR R ≤ 2 * (vR R * (1 - u53)) := by
        have : 0 ≤ vR R * (1 - 2 * u53) := Rat.mul_nonneg (Rat.le_of_lt hr0) (by grind)
        grind
      grind
    · have h3 := lt_mul hqp h
      have h4 := lt_mul (two_pos 1000) h
      have h6 : (2 : Rat) ^ (1000 : Int) * 2 ≤ 2 ^ (1000 : Int) * 2 ^ (1000 : Int) := by
        refine Rat.mul_le_mul_of_nonneg_left ?_ (Rat.le_of_lt (two_pos _))
        have := two_le (show (1 : Int) ≤ 1000 by decide)
        rwa [show (2 : Rat) ^ (1 : Int) = 2 from (two_nat 1).trans rfl] at this
      have h7 : vR R * (1 + u53) ≤ vR R * 2 := Rat.mul_le_mul_of_nonneg_left (by grind) (Rat.le_of_lt hr0)
      grind
  have hN := near_word q e hM
  have hs : fsqrt (some R) = some (wd false (f64.nearest false q e)) := by
    have e1 := fsqrt_is (wd false R)
    rw [dig54, read_wd false (by omega), d1, hq, Option.map_some, write_num, wd_false] at e1
    rw [wd_false]
    exact e1
  have hcw : cw false (f64.nearest false q e) = f64.nearest false q e := by
    rw [cw, if_neg hN.2.1, wd_false]
  refine ⟨f64.nearest false q e, by rw [hs, near_canon hN, hcw], hN.1, hN.2.1, ?_, ?_⟩
  · obtain ⟨n1, n2, n3, n4⟩ := hN
    generalize vR (f64.nearest false q e) = y at *
    generalize mg q e = x at *
    have hy : 0 ≤ y := by
      have : 0 ≤ x * (1 - u53) := Rat.mul_nonneg (Rat.le_of_lt hqp) (by grind)
      grind
    have a1 := le_mul hy n3
    have a2 := Rat.mul_le_mul_of_nonneg_left n3 (show 0 ≤ x * (1 + u53) from Rat.mul_nonneg (Rat.le_of_lt hqp) (by grind))
    have a3 := le_mul (show 0 ≤ (1 + u53) * (1 + u53) from Rat.mul_nonneg (by grind) (by grind)) k1
    grind
  · obtain ⟨n1, n2, n3, n4⟩ := hN
    generalize vR (f64.nearest false q e) = y at *
    generalize mg q e = x at *
    have hx : 0 ≤ x * (1 - u53) := Rat.mul_nonneg (Rat.le_of_lt hqp) (by grind)
    have hy : 0 ≤ y := by grind
    have a1 := le_mul hy n4
    have a2 := Rat.mul_le_mul_of_nonneg_left n4 hx
    have a3 := le_mul (show 0 ≤ (1 - u53) * (1 - u53) from Rat.mul_nonneg (by grind) (by grind)) k2
    grind
end Go.Proofs.YtbfdbpmdibjanaaDoor
