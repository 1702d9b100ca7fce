/- Floats and the numbers that they stand for: the operations on words. No condition. -/
import Derived.Test.YtgoljofmbidkfaaGreatDoorS
import Derived.Test.YtgoljofmbidkfaaGreatDoorFa
import Derived.Test.YtgoljofmbidkfaaGreatDoorL
namespace Go.Proofs.YtgoljofmbidkfaaGreatDoor
open Go Go.Eng
set_option maxRecDepth 100000
set_option linter.unusedSimpArgs false
set_option linter.unusedVariables false

abbrev u53 : Rat := (2 : Rat) ^ (-53 : Int)
abbrev u54 : Rat := (2 : Rat) ^ (-54 : Int)
theorem dat_num {R : Nat} (h : R < infR) (s : Bool) : ∃ m e, dat s R = .number s m e ∧ mg m e = vR R ∧ (R ≠ 0 → m ≠ 0) := by
  have hb : f64.binade = 2 ^ 52 := by decide
  have hl : f64.leastPlace = -1074 := by decide
  unfold dat vR
  rw [hb, hl]
  by_cases h1 : R < 2 ^ 52
  · rw [if_pos h1, if_pos h1]; exact ⟨_, _, rfl, rfl, fun h => h⟩
  · rw [if_neg h1, if_neg h1, if_pos h]; exact ⟨_, _, rfl, rfl, fun _ => by omega⟩
theorem vR_0 : vR 0 = 0 := by
  unfold vR mg
  rw [if_pos (by decide), show ((0 : Nat) : Rat) = 0 from rfl, Rat.zero_mul]
theorem vR_pos {R : Nat} (h : R < infR) (h0 : R ≠ 0) : 0 < vR R := by
  obtain ⟨m, e, _, h1, h2⟩ := dat_num h false
  rw [← h1]
  exact mg_pos (h2 h0) e
theorem vR_nonneg {R : Nat} (h : R < infR) : 0 ≤ vR R := by
  by_cases h0 : R = 0
  · subst h0; rw [vR_0]; exact Rat.le_refl
  · exact Rat.le_of_lt (vR_pos h h0)
/-- A word that lies within one rounding of a number. -/
def Near (N : Nat) (x : Rat) : Prop := N < infR ∧ N ≠ 0 ∧ vR N ≤ x * (1 + u53) ∧ x * (1 - u53) ≤ vR N
def Mid (x : Rat) : Prop := (2 : Rat) ^ (-1022 : Int) ≤ x ∧ x ≤ 2 ^ (1000 : Int)
theorem u53_one : u53 * 9007199254740992 = 1 := by
  have h := two_add (-53) 53
  rw [show (-53 : Int) + 53 = 0 by decide, show (2 : Rat) ^ (53 : Int) = 9007199254740992 from (two_nat 53).trans rfl] at h
  rw [← h]; rfl
theorem u53_pos : 0 < u53 := two_pos _
theorem u53_lt : u53 < 1 := by
  have := u53_one
  have := u53_pos
  grind
theorem near_word (m : Nat) (e : Int) (h : Mid (mg m e)) : Near (f64.nearest false m e) (mg m e) := by
  have hm : m ≠ 0 := by
    rintro rfl
    have h1 := h.1
    have h2 := two_pos (-1022)
    have h3 : mg 0 e = 0 := by unfold mg; rw [show ((0 : Nat) : Rat) = 0 from rfl, Rat.zero_mul]
    rw [h3] at h1
    exact absurd h2 (Rat.not_lt.2 h1)
  obtain ⟨h1, h2⟩ := near_rel m e hm h.2 h.1
  have hf := near_fin m e hm h.2
  refine ⟨hf, fun h0 => ?_, h1, h2⟩
  have h0 : Ieee.double.nearest false m e = 0 := h0
  rw [h0, vR_0] at h2
  have hp := mg_pos hm e
  have := u53_lt
  have h4 : 0 < mg m e * (1 - u53) := Rat.mul_pos hp (by grind)
  exact absurd h4 (Rat.not_lt.2 h2)
theorem mul_near {R Q : Nat} (s t : Bool) (hR : R < infR) (hQ : Q < infR) (hM : Mid (vR R * vR Q)) : ∃ N, fmul (some (wd s R)) (some (wd t Q)) = some (wd (s ^^ t) N) ∧ Near N (vR R * vR Q) := by
  have hi := infR_eq
  obtain ⟨m, i, d1, v1, _⟩ := dat_num hR s
  obtain ⟨n, j, d2, v2, _⟩ := dat_num hQ t
  have e : fmul (some (wd s R)) (some (wd t Q)) = ((f64.read (wd s R)).product (f64.read (wd t Q))).map f64.write := rfl
  rw [e, read_wd s (by omega), read_wd t (by omega), d1, d2]
  refine ⟨f64.nearest false (m * n) (i + j), ?_, ?_⟩
  · show some (f64.nearest (s ^^ t) (m * n) (i + j)) = _
    rw [nearest_sign]
  · rw [← v1, ← v2, mg_mul] at hM ⊢
    exact near_word _ _ hM
theorem write_num (f : Ieee.Format) (s : Bool) (m : Nat) (e : Int) : f.write (.number s m e) = f.nearest s m e := rfl
theorem fdiv_is (a b : Nat) : fdiv (some a) (some b) = ((f64.read a).quotient (f64.fractionBits + 2) (f64.read b)).map f64.write := rfl
theorem fsqrt_is (a : Nat) : fsqrt (some a) = ((f64.read a).root (f64.fractionBits + 2)).map f64.write := rfl
theorem dig54 : f64.fractionBits + 2 = 54 := by decide
theorem mul_00 : fmul (some 0) (some 0) = some 0 := by
  show some (f64.nearest false 0 _) = _
  rfl
theorem lt_mul {a b c : Rat} (hc : 0 < c) (h : a < b) : a * c < b * c := Rat.mul_lt_mul_of_pos_right h hc
theorem le_mul {a b c : Rat} (hc : 0 ≤ c) (h : a ≤ b) : a * c ≤ b * c := Rat.mul_le_mul_of_nonneg_right h hc
theorem le_of_mul {a b c : Rat} (hc : 0 < c) (h : a * c ≤ b * c) : a ≤ b := Rat.not_lt.1 fun h' => Rat.not_lt.2 h (lt_mul hc h')
theorem u54_one : u54 * 18014398509481984 = 1 := by
  have h := two_add (-54) 54
  rw [show (-54 : Int) + 54 = 0 by decide, show (2 : Rat) ^ (54 : Int) = 18014398509481984 from (two_nat 54).trans rfl] at h
  rw [← h]; rfl
theorem u54_pos : 0 < u54 := two_pos _
theorem two_1022 : (2 : Rat) ^ (-1020 : Int) = 4 * 2 ^ (-1022 : Int) := by
  have h := two_add 2 (-1022)
  rw [show (2 : Int) + -1022 = -1020 by decide, show (2 : Rat) ^ (2 : Int) = 4 from (two_nat 2).trans rfl] at h
  exact h
theorem two_1000 : (2 : Rat) ^ (1000 : Int) = 2 * 2 ^ (999 : Int) := by
  have h := two_add 1 999
  rw [show (1 : Int) + 999 = 1000 by decide, show (2 : Rat) ^ (1 : Int) = 2 from (two_nat 1).trans rfl] at h
  exact h
theorem near_canon {N : Nat} {x : Rat} (h : Near N x) (s : Bool) : canonF (some (wd s N)) = cw s N := canon_wd s (Nat.le_of_lt h.1)
theorem div_near {R Q : Nat} (s : Bool) (hR : R < infR) (hQ : Q < infR) (hR0 : R ≠ 0) (hQ0 : Q ≠ 0) (h1 : (2 : Rat) ^ (-1020 : Int) * vR Q ≤ vR R) (h2 : vR R ≤ 2 ^ (999 : Int) * vR Q) :
    ∃ N, canonF (fdiv (some (wd s R)) (some Q)) = cw s N ∧ N < infR ∧ N ≠ 0 ∧ vR N * vR Q ≤ vR R * ((1 + u54) * (1 + u53)) ∧ vR R * ((1 - u54) * (1 - u53)) ≤ vR N * vR Q := by
  have hi := infR_eq
  obtain ⟨m, i, d1, v1, m0⟩ := dat_num hR false
  obtain ⟨n, j, d2, v2, n0⟩ := dat_num hQ false
  have hq0 := vR_pos hQ hQ0
  have hr0 := vR_pos hR hR0
  obtain ⟨q, e, hq, q0, k1, k2⟩ := quot_ok m n i j (m0 hR0) (n0 hQ0)
  rw [v1, v2] at k1 k2
  have u1 := u54_one
  have u2 := u54_pos
  have hM : Mid (mg q e) := by
    refine ⟨le_of_mul hq0 ?_, le_of_mul hq0 ?_⟩
    · rw [two_1022] at h1
      have h3 : vR R ≤ 2 * (vR R * (1 - u54)) := by
        have : 0 ≤ vR R * (1 - 2 * u54) := Rat.mul_nonneg (Rat.le_of_lt hr0) (by grind)
        grind
      grind
    · rw [two_1000]
      have h3 : vR R * (1 + u54) ≤ vR R * 2 := Rat.mul_le_mul_of_nonneg_left (by grind) (Rat.le_of_lt hr0)
      grind
  have hN := near_word q e hM
  have hdiv : fdiv (some (wd s R)) (some Q) = some (wd s (f64.nearest false q e)) := by
    have e1 := fdiv_is (wd s R) (wd false Q)
    rw [dig54, read_wd s (by omega), read_wd false (by omega), d2] at e1
    rw [wd_false] at e1
    rw [e1]
    cases s
    · rw [d1, hq, Option.map_some, write_num, wd_false]
    · have : dat true R = (dat false R).opposite := by rw [dat_opp]; rfl
      rw [this, quotient_opp, d1, hq, Option.map_some, Option.map_some, Ieee.Datum.opposite, write_num, nearest_sign, Bool.not_false]
  refine ⟨f64.nearest false q e, by rw [hdiv, near_canon hN], hN.1, hN.2.1, ?_, ?_⟩
  · have h3 := le_mul (Rat.le_of_lt hq0) hN.2.2.1
    have h4 := le_mul (show 0 ≤ 1 + u53 by have := u53_pos; grind) k1
    grind
  · have h3 := le_mul (Rat.le_of_lt hq0) hN.2.2.2
    have h4 := le_mul (show 0 ≤ 1 - u53 by have := u53_lt; grind) k2
    grind
theorem div_0 {Q : Nat} (hQ : Q < infR) (hQ0 : Q ≠ 0) : canonF (fdiv (some 0) (some Q)) = 0 := by
  have hi := infR_eq
  obtain ⟨n, j, d2, v2, n0⟩ := dat_num hQ false
  have e1 := fdiv_is 0 (wd false Q)
  have hn := n0 hQ0
  rw [dig54, read_wd false (by omega), d2, show f64.read 0 = .number false 0 f64.leastPlace from rfl] at e1
  rw [wd_false] at e1
  rw [e1]
  have : ∃ e, (Ieee.Datum.number false 0 f64.leastPlace).quotient 54 (.number false n j) = some (.number false 0 e) := by
    simp only [Ieee.Datum.quotient, if_neg hn, Nat.zero_shiftLeft, Nat.zero_div, Nat.zero_mod]
    exact ⟨_, rfl⟩
  obtain ⟨e, he⟩ := this
  rw [he]
  exact canon_zero _ rfl
theorem sqrt_near {R : Nat} (hR : R < infR) (h1 : (2 : Rat) ^ (-1000 : Int) ≤ vR R) (h2 : vR R ≤ 2 ^ (1000 : Int)) :
    ∃ N, canonF (fsqrt (some R)) = N ∧ N < infR ∧ N ≠ 0 ∧ vR N * vR N ≤ vR R * ((1 + u53) * ((1 + u53) * (1 + u53))) ∧ vR R * ((1 - u53) * ((1 - u53) * (1 - u53))) ≤ vR N * vR N := by
  have hi := infR_eq
  have hR0 : R ≠ 0 := by
    rintro rfl
    rw [vR_0] at h1
    exact absurd (two_pos (-1000)) (Rat.not_lt.2 h1)
  obtain ⟨m, i, d1, v1, m0⟩ := dat_num hR false
  have hr0 := vR_pos hR hR0
  obtain ⟨q, e, hq, q0, k1, k2⟩ := root_ok m i (m0 hR0)
  rw [v1] at k1 k2
  have u1 := u53_one
  have u2 := u53_pos
  have u3 := u53_lt
  have hqp := mg_pos q0 e
  have hM : Mid (mg q e) := by
    refine ⟨Rat.not_lt.1 fun h => ?_, Rat.not_lt.1 fun h => ?_⟩
    · have h3 := lt_mul hqp h
      have h4 := lt_mul (two_pos (-1022)) h
      have h5 : (2 : Rat) ^ (-1000 : Int) = 2 * 2 ^ (-1001 : Int) := by
        have h := two_add 1 (-1001)
        rw [show (1 : Int) + -1001 = -1000 by decide, show (2 : Rat) ^ (1 : Int) = 2 from (two_nat 1).trans rfl] at h
        exact h
      have h6 : (2 : Rat) ^ (-1022 : Int) * 2 ^ (-1022 : Int) ≤ 2 ^ (-1001 : Int) := by
        rw [← two_add]; exact two_le (by decide)
      have h7 : vR R ≤ 2 * (vR R * (1 - u53)) := by
        have : 0 ≤ vR R * (1 - 2 * u53) := Rat.mul_nonneg (Rat.le_of_lt hr0) (by grind)
        grind
      grind
    · have h3 := lt_mul hqp h
      have h4 := lt_mul (two_pos 1000) h
      have h6 : (2 : Rat) ^ (1000 : Int) * 2 ≤ 2 ^ (1000 : Int) * 2 ^ (1000 : Int) := by
        refine Rat.mul_le_mul_of_nonneg_left ?_ (Rat.le_of_lt (two_pos _))
        have := two_le (show (1 : Int) ≤ 1000 by decide)
        rwa [show (2 : Rat) ^ (1 : Int) = 2 from (two_nat 1).trans rfl] at this
      have h7 : vR R * (1 + u53) ≤ vR R * 2 := Rat.mul_le_mul_of_nonneg_left (by grind) (Rat.le_of_lt hr0)
      grind
  have hN := near_word q e hM
  have hs : fsqrt (some R) = some (wd false (f64.nearest false q e)) := by
    have e1 := fsqrt_is (wd false R)
    rw [dig54, read_wd false (by omega), d1, hq, Option.map_some, write_num, wd_false] at e1
    rw [wd_false]
    exact e1
  have hcw : cw false (f64.nearest false q e) = f64.nearest false q e := by
    rw [cw, if_neg hN.2.1, wd_false]
  refine ⟨f64.nearest false q e, by rw [hs, near_canon hN, hcw], hN.1, hN.2.1, ?_, ?_⟩
  · obtain ⟨n1, n2, n3, n4⟩ := hN
    generalize vR (f64.nearest false q e) = y at *
    generalize mg q e = x at *
    have hy : 0 ≤ y := by
      have : 0 ≤ x * (1 - u53) := Rat.mul_nonneg (Rat.le_of_lt hqp) (by grind)
      grind
    have a1 := le_mul hy n3
    have a2 := Rat.mul_le_mul_of_nonneg_left n3 (show 0 ≤ x * (1 + u53) from Rat.mul_nonneg (Rat.le_of_lt hqp) (by grind))
    have a3 := le_mul (show 0 ≤ (1 + u53) * (1 + u53) from Rat.mul_nonneg (by grind) (by grind)) k1
    grind
  · obtain ⟨n1, n2, n3, n4⟩ := hN
    generalize vR (f64.nearest false q e) = y at *
    generalize mg q e = x at *
    have hx : 0 ≤ x * (1 - u53) := Rat.mul_nonneg (Rat.le_of_lt hqp) (by grind)
    have hy : 0 ≤ y := by grind
    have a1 := le_mul hy n4
    have a2 := Rat.mul_le_mul_of_nonneg_left n4 hx
    have a3 := le_mul (show 0 ≤ (1 - u53) * (1 - u53) from Rat.mul_nonneg (by grind) (by grind)) k2
    grind

/-- A word that stands for a number within k roundings. -/
def NearP (N : Nat) (x lo hi : Rat) : Prop := N < infR ∧ N ≠ 0 ∧ vR N ≤ x * hi ∧ x * lo ≤ vR N
theorem fadd_is (a b : Nat) : fadd (some a) (some b) = ((f64.read a).sum (f64.read b)).map f64.write := rfl
theorem mg_shift (m : Nat) (i base : Int) (h : base ≤ i) : mg (m <<< (i - base).toNat) base = mg m i := by
  rw [Nat.shiftLeft_eq, mg_nat]
  congr 1; omega
theorem sum_pos (m n : Nat) (i j : Int) : ∃ k, (Ieee.Datum.number false m i).sum (.number false n j) = some (.number false k (min i j)) ∧ mg k (min i j) = mg m i + mg n j := by
  refine ⟨m <<< (i - min i j).toNat + n <<< (j - min i j).toNat, ?_, ?_⟩
  · have hs : ∀ (m k : Nat), Ieee.signed false m k = ((m <<< k : Nat) : Int) := fun _ _ => rfl
    have key : ∀ (x y : Nat) (e : Int), (Ieee.Datum.number (if (x : Int) + (y : Int) = 0 then false && false else decide ((x : Int) + (y : Int) < 0)) ((x : Int) + (y : Int)).natAbs e) = .number false (x + y) e := by
      intro x y e
      have h1 : ((x : Int) + (y : Int)).natAbs = x + y := by omega
      have h2 : ¬ ((x : Int) + (y : Int) < 0) := by omega
      rw [h1, decide_eq_false h2]
      congr 1
      split <;> rfl
    unfold Ieee.Datum.sum
    simp only [hs]
    rw [key]
  · rw [mg_add, mg_shift _ _ _ (by omega), mg_shift _ _ _ (by omega)]
theorem add_near {R Q : Nat} (hR : R < infR) (hQ : Q < infR) (hM : Mid (vR R + vR Q)) : ∃ N, fadd (some R) (some Q) = some N ∧ Near N (vR R + vR Q) := by
  have hi := infR_eq
  obtain ⟨m, i, d1, v1, _⟩ := dat_num hR false
  obtain ⟨n, j, d2, v2, _⟩ := dat_num hQ false
  have e1 := fadd_is (wd false R) (wd false Q)
  obtain ⟨k, hk, hv⟩ := sum_pos m n i j
  rw [read_wd false (by omega), read_wd false (by omega), d1, d2, hk, Option.map_some, write_num] at e1
  rw [wd_false, wd_false] at e1
  refine ⟨_, e1, ?_⟩
  rw [v1, v2] at hv
  rw [← hv] at hM ⊢
  exact near_word _ _ hM
theorem add_00 : fadd (some 0) (some 0) = some 0 := by
  have e1 := fadd_is 0 0
  rw [show f64.read 0 = .number false 0 f64.leastPlace from rfl] at e1
  obtain ⟨k, hk, hv⟩ := sum_pos 0 0 f64.leastPlace f64.leastPlace
  have h0 : k = 0 := by
    rcases Nat.eq_zero_or_pos k with h | h
    · exact h
    · have h1 := mg_pos (show k ≠ 0 by omega) (min f64.leastPlace f64.leastPlace)
      rw [hv] at h1
      unfold mg at h1
      rw [show ((0 : Nat) : Rat) = 0 from rfl, Rat.zero_mul, Rat.add_zero] at h1
      exact absurd h1 Rat.lt_irrefl
  subst h0
  rw [hk, Option.map_some, write_num] at e1
  exact e1
theorem quiet_wd {N : Nat} (h : N ≤ infR) : quietF (some N) = N := by
  have hi := infR_eq
  have e1 : fne (some (wd false N)) (some (wd false N)) = false := by
    unfold fne
    rw [fcmp_wd false false (by omega) (by omega), order_self _ (dat_nan false h)]
    rfl
  rw [wd_false] at e1
  unfold quietF
  rw [if_neg (by rw [e1]; decide)]
  rfl
/-- Small enough, and nought or great enough. -/
def Part (R : Nat) : Prop := R < infR ∧ (R = 0 ∨ (2 : Rat) ^ (-1000 : Int) ≤ vR R) ∧ vR R ≤ 2 ^ (900 : Int)
theorem two_902 : (2 : Rat) ^ (902 : Int) = 4 * 2 ^ (900 : Int) := by
  have h := two_add 2 900
  rw [show (2 : Int) + 900 = 902 by decide, show (2 : Rat) ^ (2 : Int) = 4 from (two_nat 2).trans rfl] at h
  exact h
theorem row3_near {a b c : Nat} (ha : Part a) (hb : Part b) (hc : Part c) (h0 : a ≠ 0 ∨ b ≠ 0 ∨ c ≠ 0) :
    ∃ N, row3 [a, b, c] = N ∧ NearP N (vR a + vR b + vR c) ((1 - u53) * (1 - u53)) ((1 + u53) * (1 + u53)) := by
  have p0 := two_pos (-1000)
  have p1 := two_le (show (-1022 : Int) ≤ -1000 by decide)
  have p2 := two_le (show (902 : Int) ≤ 1000 by decide)
  have p3 := two_902
  have p4 := two_pos 900
  have na := vR_nonneg ha.1
  have nb := vR_nonneg hb.1
  have nc := vR_nonneg hc.1
  have u2 := u53_pos
  have u3 := u53_lt
  have u1 := u53_one
  have key : ∃ S, fadd (some a) (some b) = some S ∧ S < infR ∧ (a ≠ 0 ∨ b ≠ 0 → S ≠ 0) ∧ vR S ≤ (vR a + vR b) * (1 + u53) ∧ (vR a + vR b) * (1 - u53) ≤ vR S ∧ (a = 0 ∧ b = 0 ∨ (2 : Rat) ^ (-1000 : Int) ≤ vR a + vR b) := by
    by_cases hab : a = 0 ∧ b = 0
    · obtain ⟨rfl, rfl⟩ := hab
      refine ⟨0, add_00, ha.1, fun h => by omega, ?_, ?_, .inl ⟨rfl, rfl⟩⟩ <;> rw [vR_0] <;> grind
    · have hge : (2 : Rat) ^ (-1000 : Int) ≤ vR a + vR b := by
        rcases ha.2.1 with h | h
        · rcases hb.2.1 with h' | h'
          · exact absurd ⟨h, h'⟩ hab
          · grind
        · grind
      obtain ⟨S, h1, h2⟩ := add_near ha.1 hb.1 ⟨by grind, by have := ha.2.2; have := hb.2.2; grind⟩
      exact ⟨S, h1, h2.1, fun _ => h2.2.1, h2.2.2.1, h2.2.2.2, .inr hge⟩
  obtain ⟨S, hS, s1, s2, s3, s4, s5⟩ := key
  have hle : vR a + vR b + vR c ≤ 3 * 2 ^ (900 : Int) := by have := ha.2.2; have := hb.2.2; have := hc.2.2; grind
  have hlo : (2 : Rat) ^ (-1000 : Int) ≤ vR a + vR b + vR c := by
    rcases s5 with ⟨rfl, rfl⟩ | h
    · rcases hc.2.1 with h | h
      · omega
      · rw [vR_0]; grind
    · grind
  have q1 : (vR a + vR b) * u53 ≤ (vR a + vR b) := by
    have := Rat.mul_le_mul_of_nonneg_left (show u53 ≤ 1 by grind) (show 0 ≤ vR a + vR b by grind)
    grind
  have hM : Mid (vR S + vR c) := by
    have p5 : (2 : Rat) ^ (-1000 : Int) = 2 * 2 ^ (-1001 : Int) := by
      have h := two_add 1 (-1001)
      rw [show (1 : Int) + -1001 = -1000 by decide, show (2 : Rat) ^ (1 : Int) = 2 from (two_nat 1).trans rfl] at h
      exact h
    have p6 := two_le (show (-1022 : Int) ≤ -1001 by decide)
    have q2 : (vR a + vR b) ≤ 2 * ((vR a + vR b) * (1 - u53)) := by
      have : 0 ≤ (vR a + vR b) * (1 - 2 * u53) := Rat.mul_nonneg (by grind) (by grind)
      grind
    refine ⟨by grind, ?_⟩
    have := ha.2.2; have := hb.2.2; have := hc.2.2
    have p7 : (2 : Rat) ^ (1000 : Int) = 2 ^ (98 : Int) * 2 ^ (902 : Int) := by rw [← two_add]; rfl
    have p8 := two_le (show (1 : Int) ≤ 98 by decide)
    rw [show (2 : Rat) ^ (1 : Int) = 2 from (two_nat 1).trans rfl] at p8
    have p9 := le_mul (Rat.le_of_lt (two_pos 902)) p8
    grind
  obtain ⟨N, h1, h2⟩ := add_near s1 hc.1 hM
  have hN : row3 [a, b, c] = N := by
    show quietF (fadd (fadd (some a) (some b)) (some c)) = N
    rw [hS, h1, quiet_wd (Nat.le_of_lt h2.1)]
  refine ⟨N, hN, h2.1, h2.2.1, ?_, ?_⟩
  · have k1 : (vR S + vR c) ≤ (vR a + vR b + vR c) * (1 + u53) := by
      have : 0 ≤ vR c * u53 := Rat.mul_nonneg nc (by grind)
      grind
    have k2 := le_mul (show 0 ≤ 1 + u53 by grind) k1
    have := h2.2.2.1
    grind
  · have k1 : (vR a + vR b + vR c) * (1 - u53) ≤ (vR S + vR c) := by
      have : 0 ≤ vR c * u53 := Rat.mul_nonneg nc (by grind)
      grind
    have k2 := le_mul (show 0 ≤ 1 - u53 by grind) k1
    have := h2.2.2.2
    grind
theorem three_near {a b c : Nat} (ha : Part a) (hb : Part b) (hc : Part c) (h0 : a ≠ 0 ∨ b ≠ 0 ∨ c ≠ 0) :
    ∃ N, threeF a b c = N ∧ NearP N (vR a + vR b + vR c) ((1 - u53) * (1 - u53)) ((1 + u53) * (1 + u53)) := by
  have h : ∃ x y z, sort3 a b c = [x, y, z] ∧ Part x ∧ Part y ∧ Part z ∧ (x ≠ 0 ∨ y ≠ 0 ∨ z ≠ 0) ∧ vR x + vR y + vR z = vR a + vR b + vR c := by
    unfold sort3
    repeat' split
    · exact ⟨_, _, _, rfl, hc, hb, ha, by omega, by grind⟩
    · exact ⟨_, _, _, rfl, hb, hc, ha, by omega, by grind⟩
    · exact ⟨_, _, _, rfl, hb, ha, hc, by omega, by grind⟩
    · exact ⟨_, _, _, rfl, hc, ha, hb, by omega, by grind⟩
    · exact ⟨_, _, _, rfl, ha, hc, hb, by omega, by grind⟩
    · exact ⟨_, _, _, rfl, ha, hb, hc, by omega, by grind⟩
  obtain ⟨x, y, z, e, h1, h2, h3, h4, h5⟩ := h
  obtain ⟨N, k1, k2⟩ := row3_near h1 h2 h3 h4
  rw [h5] at k2
  exact ⟨N, by unfold threeF; rw [e]; exact k1, k2⟩

theorem order_dat {R Q : Nat} (hR : R < infR) (hQ : Q < infR) : ∃ x y : Nat, ∃ e : Int, fcmp (some R) (some Q) = some (compare (x : Int) (y : Int)) ∧ mg x e = vR R ∧ mg y e = vR Q := by
  have hi := infR_eq
  obtain ⟨m, i, d1, v1, _⟩ := dat_num hR false
  obtain ⟨n, j, d2, v2, _⟩ := dat_num hQ false
  have e1 := fcmp_wd false false (show R < 2 ^ 63 by omega) (show Q < 2 ^ 63 by omega)
  rw [wd_false, wd_false, d1, d2] at e1
  refine ⟨m <<< (i - min i j).toNat, n <<< (j - min i j).toNat, min i j, e1, ?_, ?_⟩
  · rw [mg_shift _ _ _ (by omega), v1]
  · rw [mg_shift _ _ _ (by omega), v2]
theorem mg_lt_iff (x y : Nat) (e : Int) : mg x e < mg y e ↔ x < y := by
  constructor
  · intro h
    rcases Nat.lt_or_ge x y with h1 | h1
    · exact h1
    · exact absurd h (Rat.not_lt.2 (mg_le h1 e))
  · intro h
    unfold mg
    exact lt_mul (two_pos e) (by exact_mod_cast h)
theorem fgt_true {R Q : Nat} (hR : R < infR) (hQ : Q < infR) (h : vR Q < vR R) : fgt (some R) (some Q) = true := by
  obtain ⟨x, y, e, h1, h2, h3⟩ := order_dat hR hQ
  rw [← h2, ← h3, mg_lt_iff] at h
  unfold fgt
  rw [h1, show compare (x : Int) (y : Int) = .gt by simp only [compare, compareOfLessAndEq]; rw [if_neg (by omega), if_neg (by omega)]]
  rfl
theorem fgt_false {R Q : Nat} (hR : R < infR) (hQ : Q < infR) (h : vR R ≤ vR Q) : fgt (some R) (some Q) = false := by
  obtain ⟨x, y, e, h1, h2, h3⟩ := order_dat hR hQ
  rw [← h2, ← h3] at h
  have hxy : ¬ y < x := fun h' => Rat.not_lt.2 h ((mg_lt_iff y x e).2 h')
  unfold fgt
  rw [h1]
  simp only [compare, compareOfLessAndEq]
  split
  · rfl
  · rw [if_pos (by omega)]; rfl
theorem fgt_0 {R : Nat} (hR : R < infR) (h0 : R ≠ 0) : fgt (some R) (some 0) = true :=
  fgt_true hR (by decide) (by rw [vR_0]; exact vR_pos hR h0)
/-- What a vector's part may be: nought, or of a middling size. -/
def Comp (X : Nat) : Prop := X < infR ∧ (X = 0 ∨ (2 : Rat) ^ (-400 : Int) ≤ vR X) ∧ vR X ≤ 2 ^ (400 : Int)
theorem sq_near {X : Nat} (s : Bool) (h : Comp X) : ∃ q, fmul (some (cw s X)) (some (cw s X)) = some q ∧ Part q ∧ (X ≠ 0 → q ≠ 0 ∧ (2 : Rat) ^ (-801 : Int) ≤ vR q) ∧ vR q ≤ 2 ^ (801 : Int) ∧ vR q ≤ vR X * vR X * (1 + u53) ∧ vR X * vR X * (1 - u53) ≤ vR q := by
  have p0 := two_pos (-1000)
  have p9 := two_pos 900
  by_cases h0 : X = 0
  · subst h0
    refine ⟨0, mul_00, ⟨h.1, .inl rfl, by rw [vR_0]; grind⟩, fun h => absurd rfl h, by rw [vR_0]; exact Rat.le_of_lt (two_pos _), ?_, ?_⟩ <;> rw [vR_0] <;> grind
  · have hx := h.2.1.resolve_left h0
    have hxp := vR_pos h.1 h0
    have l1 : (2 : Rat) ^ (-800 : Int) ≤ vR X * vR X := by
      have e : (2 : Rat) ^ (-800 : Int) = 2 ^ (-400 : Int) * 2 ^ (-400 : Int) := by rw [← two_add]; congr 1
      have a1 := le_mul (Rat.le_of_lt hxp) hx
      have a2 := le_mul (Rat.le_of_lt (two_pos (-400))) hx
      grind
    have l2 : vR X * vR X ≤ 2 ^ (800 : Int) := by
      have e : (2 : Rat) ^ (800 : Int) = 2 ^ (400 : Int) * 2 ^ (400 : Int) := by rw [← two_add]; congr 1
      have a1 := le_mul (Rat.le_of_lt hxp) h.2.2
      have a2 := le_mul (Rat.le_of_lt (two_pos 400)) h.2.2
      grind
    have hM : Mid (vR X * vR X) := by
      have b1 := two_le (show (-1022 : Int) ≤ -800 by decide)
      have b2 := two_le (show (800 : Int) ≤ 1000 by decide)
      exact ⟨by grind, by grind⟩
    obtain ⟨N, h1, h2⟩ := mul_near s s h.1 h.1 hM
    have hc : cw s X = wd s X := by rw [cw, if_neg h0]
    have hss : (s ^^ s) = false := by cases s <;> rfl
    rw [hss, wd_false] at h1
    have u1 := u53_one
    have u2 := u53_pos
    have hxx : 0 ≤ vR X * vR X := Rat.mul_nonneg (Rat.le_of_lt hxp) (Rat.le_of_lt hxp)
    have c1 : vR X * vR X ≤ 2 * (vR X * vR X * (1 - u53)) := by
      have : 0 ≤ vR X * vR X * (1 - 2 * u53) := Rat.mul_nonneg hxx (by grind)
      grind
    have c2 : vR X * vR X * (1 + u53) ≤ vR X * vR X * 2 := Rat.mul_le_mul_of_nonneg_left (by grind) hxx
    have n1 := h2.2.2.1
    have n2 := h2.2.2.2
    have e : (2 : Rat) ^ (-800 : Int) = 2 * 2 ^ (-801 : Int) := by
      have h := two_add 1 (-801)
      rw [show (1 : Int) + -801 = -800 by decide, show (2 : Rat) ^ (1 : Int) = 2 from (two_nat 1).trans rfl] at h
      exact h
    have e' : (2 : Rat) ^ (801 : Int) = 2 * 2 ^ (800 : Int) := by
      have h := two_add 1 800
      rw [show (1 : Int) + 800 = 801 by decide, show (2 : Rat) ^ (1 : Int) = 2 from (two_nat 1).trans rfl] at h
      exact h
    have b1 := two_le (show (-1000 : Int) ≤ -801 by decide)
    have b2 := two_le (show (801 : Int) ≤ 900 by decide)
    exact ⟨N, by rw [hc]; exact h1, ⟨h2.1, .inr (by grind), by grind⟩, fun _ => ⟨h2.2.1, by grind⟩, by grind, n1, n2⟩
/-- The length of a vector lies near the true one. -/
theorem len_near {X Y Z : Nat} (s t r : Bool) (hX : Comp X) (hY : Comp Y) (hZ : Comp Z) (h0 : X ≠ 0 ∨ Y ≠ 0 ∨ Z ≠ 0) :
    ∃ N, lenF ⟨cw s X, cw t Y, cw r Z⟩ = N ∧ N < infR ∧ N ≠ 0 ∧ vR N * vR N ≤ (vR X * vR X + vR Y * vR Y + vR Z * vR Z) * (1 + u53) ^ 6 ∧ (vR X * vR X + vR Y * vR Y + vR Z * vR Z) * (1 - u53) ^ 6 ≤ vR N * vR N := by
  obtain ⟨a, ea, pa, a0, a3, a1, a2⟩ := sq_near s hX
  obtain ⟨b, eb, pb, b0, b3, b1, b2⟩ := sq_near t hY
  obtain ⟨c, ec, pc, c0, c3, c1, c2⟩ := sq_near r hZ
  have hn : a ≠ 0 ∨ b ≠ 0 ∨ c ≠ 0 := by
    rcases h0 with h | h | h
    · exact .inl (a0 h).1
    · exact .inr (.inl (b0 h).1)
    · exact .inr (.inr (c0 h).1)
  obtain ⟨T, eT, t1, t2, t3, t4⟩ := three_near pa pb pc hn
  have u1 := u53_one
  have u2 := u53_pos
  have u3 := u53_lt
  have na := vR_nonneg pa.1
  have nb := vR_nonneg pb.1
  have nc := vR_nonneg pc.1
  have hge : (2 : Rat) ^ (-801 : Int) ≤ vR a + vR b + vR c := by
    rcases h0 with h | h | h
    · have := (a0 h).2; grind
    · have := (b0 h).2; grind
    · have := (c0 h).2; grind
  generalize hS : vR a + vR b + vR c = S at *
  have hSp : 0 < S := by have := two_pos (-801); grind
  have q1 : S ≤ 4 * (S * ((1 - u53) * (1 - u53))) := by
    have h1 : 0 ≤ (1 - 2 * u53) * (3 - 2 * u53) := Rat.mul_nonneg (by grind) (by grind)
    have := Rat.mul_nonneg (Rat.le_of_lt hSp) h1
    grind
  have q2 : S * ((1 + u53) * (1 + u53)) ≤ 4 * S := by
    have h1 : 0 ≤ (1 - u53) * (3 + u53) := Rat.mul_nonneg (by grind) (by grind)
    have := Rat.mul_nonneg (Rat.le_of_lt hSp) h1
    grind
  have g1 : (2 : Rat) ^ (-801 : Int) = 4 * 2 ^ (-803 : Int) := by
    have h := two_add 2 (-803)
    rw [show (2 : Int) + -803 = -801 by decide, show (2 : Rat) ^ (2 : Int) = 4 from (two_nat 2).trans rfl] at h
    exact h
  have g2 : (2 : Rat) ^ (805 : Int) = 16 * 2 ^ (801 : Int) := by
    have h := two_add 4 801
    rw [show (4 : Int) + 801 = 805 by decide, show (2 : Rat) ^ (4 : Int) = 16 from (two_nat 4).trans rfl] at h
    exact h
  have g3 := two_le (show (-1000 : Int) ≤ -803 by decide)
  have g4 := two_le (show (805 : Int) ≤ 1000 by decide)
  obtain ⟨N, hN, k1, k2, k3, k4⟩ := sqrt_near t1 (by grind) (by grind)
  refine ⟨N, ?_, k1, k2, ?_, ?_⟩
  · unfold lenF
    simp only [ea, eb, ec]
    show canonF (fsqrt (some (threeF a b c))) = N
    rw [eT, hN]
  · generalize hQ : vR X * vR X + vR Y * vR Y + vR Z * vR Z = Q
    have s1 : S ≤ Q * (1 + u53) := by grind
    have s2 := le_mul (show 0 ≤ (1 + u53) * (1 + u53) from Rat.mul_nonneg (by grind) (by grind)) s1
    have s3 : vR T ≤ Q * ((1 + u53) * ((1 + u53) * (1 + u53))) := by grind
    have s4 := le_mul (show 0 ≤ (1 + u53) * ((1 + u53) * (1 + u53)) from Rat.mul_nonneg (by grind) (Rat.mul_nonneg (by grind) (by grind))) s3
    grind
  · generalize hQ : vR X * vR X + vR Y * vR Y + vR Z * vR Z = Q
    have s1 : Q * (1 - u53) ≤ S := by grind
    have s2 := le_mul (show 0 ≤ (1 - u53) * (1 - u53) from Rat.mul_nonneg (by grind) (by grind)) s1
    have s3 : Q * ((1 - u53) * ((1 - u53) * (1 - u53))) ≤ vR T := by grind
    have s4 := le_mul (show 0 ≤ (1 - u53) * ((1 - u53) * (1 - u53)) from Rat.mul_nonneg (by grind) (Rat.mul_nonneg (by grind) (by grind))) s3
    grind

/-- What the part of a direction may be: nought, or from 2^-20 to 1. -/
def Dir (X : Nat) : Prop := X < infR ∧ (X = 0 ∨ (2 : Rat) ^ (-20 : Int) ≤ vR X) ∧ vR X ≤ 1
theorem two_0 : (2 : Rat) ^ (0 : Int) = 1 := (two_nat 0).trans rfl
theorem two_1 : (2 : Rat) ^ (1 : Int) = 2 := (two_nat 1).trans rfl
theorem Dir.comp {X : Nat} (h : Dir X) : Comp X := by
  have a := two_le (show (-400 : Int) ≤ -20 by decide)
  have b := two_le (show (0 : Int) ≤ 400 by decide)
  rw [two_0] at b
  refine ⟨h.1, h.2.1.imp id fun h => ?_, ?_⟩
  · grind
  · have := h.2.2; grind
/-- The part of a unit vector over a length. -/
def Over (X A L : Nat) : Prop := A < infR ∧ (A = 0 ↔ X = 0) ∧ vR A * vR L ≤ vR X * ((1 + u54) * (1 + u53)) ∧ vR X * ((1 - u54) * (1 - u53)) ≤ vR A * vR L
theorem over_ok {X L : Nat} (s : Bool) (hX : Dir X) (hL : L < infR) (hL0 : L ≠ 0) (l1 : (1 : Rat) ≤ 2 * vR L) (l2 : vR L ≤ 2) : ∃ A, canonF (fdiv (some (cw s X)) (some L)) = cw s A ∧ Over X A L := by
  by_cases h0 : X = 0
  · subst h0
    refine ⟨0, div_0 hL hL0, hX.1, Iff.rfl, ?_, ?_⟩ <;> rw [vR_0] <;> grind
  · have hx := hX.2.1.resolve_left h0
    have hc : cw s X = wd s X := by rw [cw, if_neg h0]
    have hxp := vR_pos hX.1 h0
    obtain ⟨N, h1, h2, h3, h4, h5⟩ := div_near s hX.1 hL h0 hL0 (by
      have a := two_le (show (-1020 : Int) ≤ -21 by decide)
      have e : (2 : Rat) ^ (-20 : Int) = 2 * 2 ^ (-21 : Int) := by
        have h := two_add 1 (-21)
        rw [show (1 : Int) + -21 = -20 by decide, two_1] at h
        exact h
      have b := Rat.mul_le_mul_of_nonneg_left l2 (Rat.le_of_lt (two_pos (-1020)))
      grind) (by
      have a := two_le (show (1 : Int) ≤ 999 by decide)
      rw [two_1] at a
      have b := le_mul (show 0 ≤ vR L by grind) a
      have := hX.2.2
      grind)
    exact ⟨N, by rw [hc]; exact h1, h2, ⟨fun h => absurd h h3, fun h => absurd h h0⟩, h4, h5⟩
theorem top_ge : (2 : Rat) ≤ vR 9218868437227405311 := by
  have e : vR 9218868437227405311 = mg 9007199254740991 971 := by
    unfold vR
    rw [if_neg (by decide)]
    have e1 : 2 ^ 52 + 9218868437227405311 % 2 ^ 52 = 9007199254740991 := by decide
    have e2 : 9218868437227405311 / 2 ^ 52 - 1 = 2045 := by decide
    rw [e1, e2]
    congr 1
  rw [e]
  have a := mg_le (show 1 ≤ 9007199254740991 by decide) 971
  have b := two_le (show (1 : Int) ≤ 971 by decide)
  rw [two_1] at b
  unfold mg at a ⊢
  rw [show ((1 : Nat) : Rat) = 1 from rfl, Rat.one_mul] at a
  exact Rat.le_trans b a
theorem unit_near {X Y Z : Nat} (s t r : Bool) (hX : Dir X) (hY : Dir Y) (hZ : Dir Z) (h1 : 1 ≤ vR X * vR X + vR Y * vR Y + vR Z * vR Z) :
    ∃ L A B C, lenF ⟨cw s X, cw t Y, cw r Z⟩ = L ∧ L < infR ∧ L ≠ 0 ∧ (1 : Rat) ≤ 2 * vR L ∧ vR L ≤ 2 ∧
      vR L * vR L ≤ (vR X * vR X + vR Y * vR Y + vR Z * vR Z) * (1 + u53) ^ 6 ∧ (vR X * vR X + vR Y * vR Y + vR Z * vR Z) * (1 - u53) ^ 6 ≤ vR L * vR L ∧
      unitF ⟨cw s X, cw t Y, cw r Z⟩ = ⟨cw s A, cw t B, cw r C⟩ ∧ Over X A L ∧ Over Y B L ∧ Over Z C L := by
  have u1 := u53_one
  have u2 := u53_pos
  have h0 : X ≠ 0 ∨ Y ≠ 0 ∨ Z ≠ 0 := by
    by_cases hx : X = 0
    · by_cases hy : Y = 0
      · by_cases hz : Z = 0
        · subst hx hy hz
          rw [vR_0] at h1
          grind
        · exact .inr (.inr hz)
      · exact .inr (.inl hy)
    · exact .inl hx
  obtain ⟨L, hL, k1, k2, k3, k4⟩ := len_near s t r hX.comp hY.comp hZ.comp h0
  have sq1 : ∀ {R : Nat}, Dir R → vR R * vR R ≤ 1 := by
    intro R h
    have a := le_mul (vR_nonneg h.1) h.2.2
    have := h.2.2
    grind
  have x1 := sq1 hX
  have y1 := sq1 hY
  have z1 := sq1 hZ
  generalize hQ : vR X * vR X + vR Y * vR Y + vR Z * vR Z = Q at *
  have hp := vR_pos k1 k2
  have b1 : (3 : Rat) * (1 + u53) ^ 6 ≤ 4 := by
    have e : u53 = 1 / 9007199254740992 := by grind
    rw [e]; decide +kernel
  have b2 : (1 : Rat) ≤ 4 * (1 - u53) ^ 6 := by
    have e : u53 = 1 / 9007199254740992 := by grind
    rw [e]; decide +kernel
  have b3 : 0 ≤ (1 + u53) ^ 6 := by
    have e : u53 = 1 / 9007199254740992 := by grind
    rw [e]; decide +kernel
  have b4 : 0 ≤ (1 - u53) ^ 6 := by
    have e : u53 = 1 / 9007199254740992 := by grind
    rw [e]; decide +kernel
  have l2 : vR L ≤ 2 := by
    refine Rat.not_lt.1 fun h => ?_
    have a1 := lt_mul hp h
    have a2 := le_mul b3 (show Q ≤ 3 by grind)
    grind
  have l1 : (1 : Rat) ≤ 2 * vR L := by
    refine Rat.not_lt.1 fun h => ?_
    have a1 := lt_mul hp h
    have a2 := le_mul b4 h1
    grind
  obtain ⟨A, eA, oA⟩ := over_ok s hX k1 k2 l1 l2
  obtain ⟨B, eB, oB⟩ := over_ok t hY k1 k2 l1 l2
  obtain ⟨C, eC, oC⟩ := over_ok r hZ k1 k2 l1 l2
  refine ⟨L, A, B, C, hL, k1, k2, l1, l2, k3, k4, ?_, oA, oB, oC⟩
  unfold unitF
  rw [hL, fgt_0 k1 k2, fgt_false k1 (by decide) (Rat.le_trans l2 top_ge)]
  simp only [Bool.not_false, Bool.and_self, if_true, eA, eB, eC]

theorem u53_is : u53 = 1 / 9007199254740992 := by
  have := u53_one
  grind
theorem u54_is : u54 = 1 / 18014398509481984 := by
  have := u54_one
  grind
theorem int_near (k : Int) : FloatKind.f64.nearest k = wd (decide (k < 0)) (f64.nearest false k.natAbs 0) := by
  have h : FloatKind.f64.nearest k = f64.write (.number (decide (k < 0)) k.natAbs 0) := rfl
  rw [h, write_num, nearest_sign]
theorem mg_0 (m : Nat) : mg m 0 = (m : Rat) := by
  unfold mg
  rw [two_0, Rat.mul_one]
theorem whole_near {k : Nat} (h0 : k ≠ 0) (h : k ≤ 64) : Near (f64.nearest false k 0) (k : Rat) := by
  have := near_word k 0 (by
    rw [mg_0]
    have a := two_le (show (-1022 : Int) ≤ 0 by decide)
    have b := two_le (show (6 : Int) ≤ 1000 by decide)
    rw [two_0] at a
    rw [show (2 : Rat) ^ (6 : Int) = 64 from (two_nat 6).trans rfl] at b
    have c : (1 : Rat) ≤ (k : Rat) := by exact_mod_cast Nat.pos_of_ne_zero h0
    have d : (k : Rat) ≤ 64 := by exact_mod_cast h
    exact ⟨Rat.le_trans a c, Rat.le_trans d b⟩)
  rwa [mg_0] at this
theorem self_ratio : ∀ n : Nat, n < 33 → n ≠ 0 → canonF (ratioO n n) = oneB ∧ canonF (ratioO (-(n : Int)) n) = wd true oneB := by decide +kernel
theorem vR_one : vR oneB = 1 := by
  have e : vR oneB = mg (2 ^ 52) (-52) := by
    unfold vR
    rw [if_neg (by decide)]
    have e1 : 2 ^ 52 + oneB % 2 ^ 52 = 2 ^ 52 := by decide
    have e2 : oneB / 2 ^ 52 - 1 = 1022 := by decide
    rw [e1, e2]
    congr 1
  rw [e]
  unfold mg
  rw [← two_nat, ← two_add, show ((52 : Nat) : Int) + -52 = 0 by decide, two_0]
/-- A part of a direction, as a float over the side. -/
theorem ratio_dir (n : Nat) (k : Int) (hn : 1 ≤ n) (hn' : n ≤ 32) (hk : k.natAbs ≤ n) : ∃ X, canonF (ratioO k n) = cw (decide (k < 0)) X ∧ Dir X ∧ (X = 0 ↔ k = 0) ∧ (k.natAbs = n → X = oneB) ∧
    vR X * n ≤ k.natAbs * (1 + 8 * u53) ∧ k.natAbs * (1 - 8 * u53) ≤ vR X * n := by
  have u1 := u53_is
  have u2 := u53_pos
  have hnn : (1 : Rat) ≤ (n : Rat) := by exact_mod_cast hn
  have hnn' : (n : Rat) ≤ 32 := by exact_mod_cast hn'
  obtain ⟨N1, N2, N3, N4⟩ := whole_near (show n ≠ 0 by omega) (show n ≤ 64 by omega)
  have hden : FloatKind.f64.nearest (n : Int) = f64.nearest false n 0 := by
    rw [int_near, decide_eq_false (by omega), Int.natAbs_natCast, wd_false]
  by_cases h0 : k = 0
  · subst h0
    refine ⟨0, ?_, ⟨by decide, .inl rfl, by rw [vR_0]; decide⟩, by simp, fun h => ?_, ?_, ?_⟩
    · have : ratioO 0 n = fdiv (some 0) (some (f64.nearest false n 0)) := by
        unfold ratioO
        rw [hden]; rfl
      rw [this, div_0 N1 N2]; rfl
    · simp at h; omega
    · rw [vR_0, Int.natAbs_zero, show ((0 : Nat) : Rat) = 0 from rfl]; grind
    · rw [vR_0, Int.natAbs_zero, show ((0 : Nat) : Rat) = 0 from rfl]; grind
  · by_cases h1 : k.natAbs = n
    · have hs := self_ratio n (by omega) (by omega)
      refine ⟨oneB, ?_, ⟨by decide, .inr ?_, by rw [vR_one]; exact Rat.le_refl⟩, ⟨fun h => absurd h (by decide), fun h => absurd h h0⟩, fun _ => rfl, ?_, ?_⟩
      · rcases Int.lt_or_le k 0 with h2 | h2
        · obtain rfl : k = -(n : Int) := by omega
          rw [hs.2, decide_eq_true h2, cw, if_neg (by decide)]
        · obtain rfl : k = (n : Int) := by omega
          rw [hs.1, decide_eq_false (by omega), cw, if_neg (by decide), wd_false]
      · rw [vR_one]
        have := two_le (show (-20 : Int) ≤ 0 by decide)
        rwa [two_0] at this
      · rw [vR_one, h1]; have := Rat.mul_nonneg (show (0 : Rat) ≤ n by grind) (Rat.le_of_lt u2); grind
      · rw [vR_one, h1]; have := Rat.mul_nonneg (show (0 : Rat) ≤ n by grind) (Rat.le_of_lt u2); grind
    · obtain ⟨K1, K2, K3, K4⟩ := whole_near (show k.natAbs ≠ 0 by omega) (show k.natAbs ≤ 64 by omega)
      have hnum : FloatKind.f64.nearest k = wd (decide (k < 0)) (f64.nearest false k.natAbs 0) := int_near k
      have hka : (1 : Rat) ≤ (k.natAbs : Rat) := by exact_mod_cast (show 1 ≤ k.natAbs by omega)
      have hkn : (k.natAbs : Rat) + 1 ≤ (n : Rat) := by exact_mod_cast (show k.natAbs + 1 ≤ n by omega)
      generalize f64.nearest false k.natAbs 0 = K at *
      generalize f64.nearest false n 0 = D at *
      generalize (k.natAbs : Rat) = a at *
      generalize (n : Rat) = d at *
      have kb : (1 : Rat) ≤ 2 * vR K ∧ vR K ≤ 64 := by rw [u1] at K3 K4; constructor <;> grind
      have db : (1 : Rat) ≤ 2 * vR D ∧ vR D ≤ 64 := by rw [u1] at N3 N4; constructor <;> grind
      obtain ⟨X, x1, x2, x3, x4, x5⟩ := div_near (decide (k < 0)) K1 N1 K2 N2 (by
        have p := two_le (show (-1020 : Int) ≤ -7 by decide)
        have q : (2 : Rat) ^ (-7 : Int) * 128 = 1 := by
          have h := two_add (-7) 7
          rw [show (-7 : Int) + 7 = 0 by decide, two_0, show (2 : Rat) ^ (7 : Int) = 128 from (two_nat 7).trans rfl] at h
          exact h.symm
        have r := le_mul (show 0 ≤ vR D by grind) p
        have r2 := Rat.mul_le_mul_of_nonneg_left db.2 (Rat.le_of_lt (two_pos (-7)))
        grind) (by
        have p := two_le (show (7 : Int) ≤ 999 by decide)
        rw [show (2 : Rat) ^ (7 : Int) = 128 from (two_nat 7).trans rfl] at p
        have r := le_mul (show 0 ≤ vR D by grind) p
        grind)
      have hratio : ratioO k n = fdiv (some (wd (decide (k < 0)) K)) (some D) := by
        unfold ratioO
        rw [hden, hnum]
      have xp := vR_pos x2 x3
      rw [u1, u54_is] at x4 x5
      rw [u1] at K3 K4 N3 N4 ⊢
      have a1 : vR X * (d * (1 - 1 / 9007199254740992)) ≤ vR X * vR D := Rat.mul_le_mul_of_nonneg_left N4 (Rat.le_of_lt xp)
      have a2 : vR X * vR D ≤ vR X * (d * (1 + 1 / 9007199254740992)) := Rat.mul_le_mul_of_nonneg_left N3 (Rat.le_of_lt xp)
      have g1 : vR X * d ≤ a * (1 + 8 * (1 / 9007199254740992)) := by grind
      have g2 : a * (1 - 8 * (1 / 9007199254740992)) ≤ vR X * d := by grind
      refine ⟨X, by rw [hratio]; exact x1, ⟨x2, .inr ?_, ?_⟩, ⟨fun h => absurd h x3, fun h => absurd h h0⟩, fun h => absurd h h1, g1, g2⟩
      · have q : (2 : Rat) ^ (-20 : Int) ≤ 1 / 64 := by
          have p := two_le (show (-20 : Int) ≤ -6 by decide)
          have h := two_add (-6) 6
          rw [show (-6 : Int) + 6 = 0 by decide, two_0, show (2 : Rat) ^ (6 : Int) = 64 from (two_nat 6).trans rfl] at h
          grind
        have a3 := Rat.mul_le_mul_of_nonneg_left hnn' (Rat.le_of_lt xp)
        grind
      · refine Rat.not_lt.1 fun h => ?_
        have a3 := lt_mul (show 0 < d by grind) h
        grind

/-- The part m over n, as a rung; with a sign. -/
def qX (n m : Nat) : Nat := canonF (ratioO m n)
def qS (n : Nat) (k : Int) : Nat := cw (decide (k < 0)) (qX n k.natAbs)
theorem qX_dir {n m : Nat} (hn : 1 ≤ n) (hn' : n ≤ 32) (hm : m ≤ n) : Dir (qX n m) ∧ (qX n m = 0 ↔ m = 0) ∧ (m = n → qX n m = oneB) ∧ vR (qX n m) * n ≤ m * (1 + 8 * u53) ∧ m * (1 - 8 * u53) ≤ vR (qX n m) * n := by
  obtain ⟨X, h1, h2, h3, h4, h5, h6⟩ := ratio_dir n m hn hn' (by simpa using hm)
  have e : qX n m = X := by
    unfold qX
    rw [h1, decide_eq_false (by omega)]
    unfold cw
    split
    · omega
    · rw [wd_false]
  rw [Int.natAbs_natCast] at h4 h5 h6
  rw [e]
  exact ⟨h2, by rw [h3]; omega, h4, h5, h6⟩
theorem ratio_word {n : Nat} (k : Int) (hn : 1 ≤ n) (hn' : n ≤ 32) (hk : k.natAbs ≤ n) : ∃ s, ratioO k n = some (wd s (qX n k.natAbs)) ∧ (k ≠ 0 → s = decide (k < 0)) := by
  have hi := infR_eq
  have hden : FloatKind.f64.nearest (n : Int) = f64.nearest false n 0 := by
    rw [int_near, decide_eq_false (by omega), Int.natAbs_natCast, wd_false]
  obtain ⟨d1, d2, d3, _⟩ := qX_dir hn hn' hk
  obtain ⟨N1, N2, _⟩ := whole_near (show n ≠ 0 by omega) (show n ≤ 64 by omega)
  by_cases h0 : k = 0
  · subst h0
    have e0 : qX n 0 = 0 := d2.2 rfl
    have h := ratio_dir n 0 hn hn' (by simp)
    refine ⟨false, ?_, fun h => absurd rfl h⟩
    rw [Int.natAbs_zero, e0, wd_false]
    have e1 : ratioO 0 n = fdiv (some 0) (some (f64.nearest false n 0)) := by
      unfold ratioO
      rw [hden]; rfl
    obtain ⟨m, j, g1, _, g3⟩ := dat_num N1 false
    rw [e1, fdiv_is, dig54, show f64.read 0 = .number false 0 f64.leastPlace from rfl]
    have := read_wd false (show f64.nearest false n 0 < 2 ^ 63 by omega)
    rw [wd_false] at this
    rw [this, g1]
    simp only [Ieee.Datum.quotient, if_neg (g3 N2), Nat.zero_shiftLeft, Nat.zero_div, Nat.zero_mod]
    rfl
  · -- the quotient of the magnitudes
    have hq : ∀ s, (f64.read (wd s (f64.nearest false k.natAbs 0))).quotient (f64.fractionBits + 2) (f64.read (f64.nearest false n 0)) = if s = true then ((f64.read (wd false (f64.nearest false k.natAbs 0))).quotient (f64.fractionBits + 2) (f64.read (f64.nearest false n 0))).map (·.opposite) else (f64.read (wd false (f64.nearest false k.natAbs 0))).quotient (f64.fractionBits + 2) (f64.read (f64.nearest false n 0)) := by
      obtain ⟨K1, K2, _⟩ := whole_near (show k.natAbs ≠ 0 by omega) (show k.natAbs ≤ 64 by omega)
      intro s
      cases s
      · rfl
      · rw [if_pos rfl, read_wd _ (by omega), read_wd _ (by omega), ← quotient_opp, dat_opp]; rfl
    have hr : ∀ s, fdiv (some (wd s (f64.nearest false k.natAbs 0))) (some (f64.nearest false n 0)) = ((f64.read (wd s (f64.nearest false k.natAbs 0))).quotient (f64.fractionBits + 2) (f64.read (f64.nearest false n 0))).map f64.write := fun s => fdiv_is _ _
    have hpos : ratioO (k.natAbs : Int) n = fdiv (some (wd false (f64.nearest false k.natAbs 0))) (some (f64.nearest false n 0)) := by
      unfold ratioO
      rw [hden, int_near, decide_eq_false (by omega), Int.natAbs_natCast]
    have hsgn : ratioO k n = fdiv (some (wd (decide (k < 0)) (f64.nearest false k.natAbs 0))) (some (f64.nearest false n 0)) := by
      unfold ratioO
      rw [hden, int_near k]
    have hX : canonF (ratioO (k.natAbs : Int) n) = qX n k.natAbs := rfl
    cases hd : (f64.read (wd false (f64.nearest false k.natAbs 0))).quotient (f64.fractionBits + 2) (f64.read (f64.nearest false n 0)) with
    | none =>
      exfalso
      rw [hpos, hr, hd] at hX
      have : canonF (Option.map f64.write none) = qn := rfl
      rw [this] at hX
      have h1 := d1.1
      rw [← hX] at h1
      exact absurd h1 (by decide)
    | some d =>
      obtain ⟨s, R, r1, r2, r3⟩ := write_opp d (nan_quotient hd)
      rw [hpos, hr, hd, Option.map_some, r2, canon_wd s r1] at hX
      have h0' : qX n k.natAbs ≠ 0 := fun h => h0 (by have := d2.1 h; omega)
      have hR : R ≠ 0 := by
        intro h
        rw [cw, if_pos h] at hX
        exact h0' hX.symm
      have h1 := d1.1
      rw [cw, if_neg hR] at hX
      have hs : s = false := by
        cases s
        · rfl
        · rw [wd_true] at hX; omega
      subst hs
      rw [wd_false] at hX
      refine ⟨decide (k < 0), ?_, fun _ => rfl⟩
      rw [hsgn, hr, hq, hd]
      rcases Int.lt_or_le k 0 with h2 | h2
      · rw [decide_eq_true h2, if_pos rfl, Option.map_some, Option.map_some, r3, hX]; rfl
      · rw [decide_eq_false (by omega), if_neg (by decide), Option.map_some, r2, hX]
theorem canon_ratio {n : Nat} (k : Int) (hn : 1 ≤ n) (hn' : n ≤ 32) (hk : k.natAbs ≤ n) : canonF (ratioO k n) = qS n k ∧ canonF (fneg (ratioO k n)) = qS n (-k) := by
  have hi := infR_eq
  obtain ⟨s, h1, h2⟩ := ratio_word k hn hn' hk
  obtain ⟨d1, d2, _⟩ := qX_dir hn hn' hk
  have hlt := d1.1
  rw [h1, canon_wd s (Nat.le_of_lt hlt)]
  have e : canonF (fneg (some (wd s (qX n k.natAbs)))) = cw (!s) (qX n k.natAbs) := by
    show canonF (some (Op.negFloat .f64 (wd s (qX n k.natAbs)))) = _
    rw [neg_wd s (by omega), canon_wd _ (Nat.le_of_lt hlt)]
  rw [e]
  unfold qS
  rw [Int.natAbs_neg]
  by_cases h0 : k = 0
  · have e0 : qX n k.natAbs = 0 := d2.2 (by omega)
    rw [e0]
    exact ⟨rfl, rfl⟩
  · rw [h2 h0]
    refine ⟨rfl, ?_⟩
    congr 1
    rcases Int.lt_or_le k 0 with h | h
    · rw [decide_eq_true h, decide_eq_false (by omega)]; rfl
    · rw [decide_eq_false (by omega), decide_eq_true (by omega)]; rfl
theorem canon_one {n : Nat} (hn : 1 ≤ n) (hn' : n ≤ 32) : canonF (some oneB) = qS n n ∧ canonF (fneg (some oneB)) = qS n (-n) := by
  obtain ⟨_, _, d3, _⟩ := qX_dir hn hn' (Nat.le_refl n)
  have e := d3 rfl
  unfold qS
  rw [Int.natAbs_neg, Int.natAbs_natCast, e, decide_eq_false (by omega), decide_eq_true (by omega)]
  have h1 : canonF (some (wd false oneB)) = cw false oneB := canon_wd false (by decide)
  rw [wd_false] at h1
  refine ⟨h1, ?_⟩
  show canonF (some (Op.negFloat .f64 (wd false oneB))) = _
  rw [neg_wd false (by decide), canon_wd _ (by decide)]; rfl
/-- A direction in whole numbers. -/
structure DirZ where
  x : Int
  y : Int
  z : Int
def vecW (n : Nat) (d : DirZ) : W := ⟨qS n d.x, qS n d.y, qS n d.z⟩
/-- The direction of a point of a face. -/
def dirF (n : Nat) : Nat → Int → Int → DirZ
  | 0, k, l => ⟨n, k, l⟩
  | 1, k, l => ⟨-k, n, l⟩
  | 2, k, l => ⟨-n, -k, l⟩
  | 3, k, l => ⟨k, -n, l⟩
  | 4, k, l => ⟨-l, k, n⟩
  | _, k, l => ⟨l, k, -n⟩
theorem pointV_dir {n : Nat} (f : Nat) (k l : Int) (hn : 1 ≤ n) (hn' : n ≤ 32) (hk : k.natAbs ≤ n) (hl : l.natAbs ≤ n) : pointV f (ratioO k n) (ratioO l n) = vecW n (dirF n f k l) := by
  obtain ⟨k1, k2⟩ := canon_ratio k hn hn' hk
  obtain ⟨l1, l2⟩ := canon_ratio l hn hn' hl
  obtain ⟨o1, o2⟩ := canon_one hn hn'
  unfold vecW
  match f with
  | 0 => simp only [pointV, dirF, k1, l1, o1]
  | 1 => simp only [pointV, dirF, k2, l1, o1]
  | 2 => simp only [pointV, dirF, k2, l1, o2]
  | 3 => simp only [pointV, dirF, k1, l1, o2]
  | 4 => simp only [pointV, dirF, l2, k1, o1]
  | f + 5 => simp only [pointV, dirF, l1, k1, o2]
/-- A corner, a middle: by its direction. -/
theorem corner_dir {n f i j : Nat} (hn : 1 ≤ n) (hn' : n ≤ 32) (hi : i ≤ n) (hj : j ≤ n) : cornerF n f i j = unitF (vecW n (dirF n f (2 * i - n) (2 * j - n))) := by
  unfold cornerF pointF
  rw [pointV_dir f _ _ hn hn' (by omega) (by omega)]
theorem middle_dir {n f i j : Nat} (hn : 1 ≤ n) (hn' : n ≤ 32) (hi : i < n) (hj : j < n) : middleF n f i j = unitF (vecW n (dirF n f (2 * i + 1 - n) (2 * j + 1 - n))) := by
  unfold middleF pointF
  rw [pointV_dir f _ _ hn hn' (by omega) (by omega)]
end Go.Proofs.YtgoljofmbidkfaaGreatDoor
