/- Floats and the numbers that they stand for: sums, order, lengths. No condition. -/
import Derived.Test.YtbfdbpmdibjanaaDoorFb
namespace Go.Proofs.YtbfdbpmdibjanaaDoor
open Go Go.Eng
set_option maxRecDepth 100000
set_option linter.unusedSimpArgs false
set_option linter.unusedVariables false

/-- A word that stands for a number within k roundings. -/
def NearP (N : Nat) (x lo hi : Rat) : Prop := N < infR ∧ N ≠ 0 ∧ vR N ≤ x * hi ∧ x * lo ≤ vR N
theorem fadd_is (a b : Nat) : fadd (some a) (some b) = ((f64.read a).sum (f64.read b)).map f64.write := rfl
theorem mg_shift (m : Nat) (i base : Int) (h : base ≤ i) : mg (m <<< (i - base).toNat) base = mg m i := by
  rw [Nat.shiftLeft_eq, mg_nat]
  congr 1; omega
theorem sum_pos (m n : Nat) (i j : Int) : ∃ k, (Ieee.Datum.number false m i).sum (.number false n j) = some (.number false k (min i j)) ∧ mg k (min i j) = mg m i + mg n j := by
  refine ⟨m <<< (i - min i j).toNat + n <<< (j - min i j).toNat, ?_, ?_⟩
  · have hs : ∀ (m k : Nat), Ieee.signed false m k = ((m <<< k : Nat) : Int) := fun _ _ => rfl
    have key : ∀ (x y : Nat) (e : Int), (Ieee.Datum.number (if (x : Int) + (y : Int) = 0 then false && false else decide ((x : Int) + (y : Int) < 0)) ((x : Int) + (y : Int)).natAbs e) = .number false (x + y) e := by
      intro x y e
      have h1 : ((x : Int) + (y : Int)).natAbs = x + y := by omega
      have h2 : ¬ ((x : Int) + (y : Int) < 0) := by omega
      rw [h1, decide_eq_false h2]
      congr 1
      split <;> rfl
    unfold Ieee.Datum.sum
    simp only [hs]
    rw [key]
  · rw [mg_add, mg_shift _ _ _ (by omega), mg_shift _ _ _ (by omega)]
theorem add_near {R Q : Nat} (hR : R < infR) (hQ : Q < infR) (hM : Mid (vR R + vR Q)) : ∃ N, fadd (some R) (some Q) = some N ∧ Near N (vR R + vR Q) := by
  have hi := infR_eq
  obtain ⟨m, i, d1, v1, _⟩ := dat_num hR false
  obtain ⟨n, j, d2, v2, _⟩ := dat_num hQ false
  have e1 := fadd_is (wd false R) (wd false Q)
  obtain ⟨k, hk, hv⟩ := sum_pos m n i j
  rw [read_wd false (by omega), read_wd false (by omega), d1, d2, hk, Option.map_some, write_num] at e1
  rw [wd_false, wd_false] at e1
  refine ⟨_, e1, ?_⟩
  rw [v1, v2] at hv
  rw [← hv] at hM ⊢
  exact near_word _ _ hM
theorem add_00 : fadd (some 0) (some 0) = some 0 := by
  have e1 := fadd_is 0 0
  rw [show f64.read 0 = .number false 0 f64.leastPlace from rfl] at e1
  obtain ⟨k, hk, hv⟩ := sum_pos 0 0 f64.leastPlace f64.leastPlace
  have h0 : k = 0 := by
    rcases Nat.eq_zero_or_pos k with h | h
    · exact h
    · have h1 := mg_pos (show k ≠ 0 by omega) (min f64.leastPlace f64.leastPlace)
      rw [hv] at h1
      unfold mg at h1
      rw [show ((0 : Nat) : Rat) = 0 from rfl, Rat.zero_mul, Rat.add_zero] at h1
      exact absurd h1 Rat.lt_irrefl
  subst h0
  rw [hk, Option.map_some, write_num] at e1
  exact e1
theorem quiet_wd {N : Nat} (h : N ≤ infR) : quietF (some N) = N := by
  have hi := infR_eq
  have e1 : fne (some (wd false N)) (some (wd false N)) = false := by
    unfold fne
    rw [fcmp_wd false false (by omega) (by omega), order_self _ (dat_nan false h)]
    rfl
  rw [wd_false] at e1
  unfold quietF
  rw [if_neg (by rw [e1]; decide)]
  rfl
/-- Small enough, and nought or great enough. -/
def Part (R : Nat) : Prop := R < infR ∧ (R = 0 ∨ (2 : Rat) ^ (-1000 : Int) ≤ vR R) ∧ vR R ≤ 2 ^ (900 : Int)
theorem two_902 : (2 : Rat) ^ (902 : Int) = 4 * 2 ^ (900 : Int) := by
  have h := two_add 2 900
  rw [show (2 : Int) + 900 = 902 by decide, show (2 : Rat) ^ (2 : Int) = 4 from (two_nat 2).trans rfl] at h
  exact h
theorem row3_near {a b c : Nat} (ha : Part a) (hb : Part b) (hc : Part c) (h0 : a ≠ 0 ∨ b ≠ 0 ∨ c ≠ 0) :
    ∃ N, row3 [a, b, c] = N ∧ NearP N (vR a + vR b + vR c) ((1 - u53) * (1 - u53)) ((1 + u53) * (1 + u53)) := by
  have p0 := two_pos (-1000)
  have p1 := two_le (show (-1022 : Int) ≤ -1000 by decide)
  have p2 := two_le (show (902 : Int) ≤ 1000 by decide)
  have p3 := two_902
  have p4 := two_pos 900
  have na := vR_nonneg ha.1
  have nb := vR_nonneg hb.1
  have nc := vR_nonneg hc.1
  have u2 := u53_pos
  have u3 := u53_lt
  have u1 := u53_one
  have key : ∃ S, fadd (some a) (some b) = some S ∧ S < infR ∧ (a ≠ 0 ∨ b ≠ 0 → S ≠ 0) ∧ vR S ≤ (vR a + vR b) * (1 + u53) ∧ (vR a + vR b) * (1 - u53) ≤ vR S ∧ (a = 0 ∧ b = 0 ∨ (2 : Rat) ^ (-1000 : Int) ≤ vR a + vR b) := by
    by_cases hab : a = 0 ∧ b = 0
    · obtain ⟨rfl, rfl⟩ := hab
      refine ⟨0, add_00, ha.1, fun h => by omega, ?_, ?_, .inl ⟨rfl, rfl⟩⟩ <;> rw [vR_0] <;> grind
    · have hge : (2 : Rat) ^ (-1000 : Int) ≤ vR a + vR b := by
        rcases ha.2.1 with h | h
        · rcases hb.2.1 with h' | h'
          · exact absurd ⟨h, h'⟩ hab
          · grind
        · grind
      obtain ⟨S, h1, h2⟩ := add_near ha.1 hb.1 ⟨by grind, by have := ha.2.2; have := hb.2.2; grind⟩
      exact ⟨S, h1, h2.1, fun _ => h2.2.1, h2.2.2.1, h2.2.2.2, .inr hge⟩
  obtain ⟨S, hS, s1, s2, s3, s4, s5⟩ := key
  have hle : vR a + vR b + vR c ≤ 3 * 2 ^ (900 : Int) := by have := ha.2.2; have := hb.2.2; have := hc.2.2; grind
  have hlo : (2 : Rat) ^ (-1000 : Int) ≤ vR a + vR b + vR c := by
    rcases s5 with ⟨rfl, rfl⟩ | h
    · rcases hc.2.1 with h | h
      · omega
      · rw [vR_0]; grind
    · grind
  have q1 : (vR a + vR b) * u53 ≤ (vR a + vR b) := by
    have := Rat.mul_le_mul_of_nonneg_left (show u53 ≤ 1 by grind) (show 0 ≤ vR a + vR b by grind)
    grind
  have hM : Mid (vR S + vR c) := by
    have p5 : (2 : Rat) ^ (-1000 : Int) = 2 * 2 ^ (-1001 : Int) := by
      have h := two_add 1 (-1001)
      rw [show (1 : Int) + -1001 = -1000 by decide, show (2 : Rat) ^ (1 : Int) = 2 from (two_nat 1).trans rfl] at h
      exact h
    have p6 := two_le (show (-1022 : Int) ≤ -1001 by decide)
    have q2 : (vR a + vR b) ≤ 2 * ((vR a + vR b) * (1 - u53)) := by
      have : 0 ≤ (vR a + vR b) * (1 - 2 * u53) := Rat.mul_nonneg (by grind) (by grind)
      grind
    refine ⟨by grind, ?_⟩
    have := ha.2.2; have := hb.2.2; have := hc.2.2
    have p7 : (2 : Rat) ^ (1000 : Int) = 2 ^ (98 : Int) * 2 ^ (902 : Int) := by rw [← two_add]; rfl
    have p8 := two_le (show (1 : Int) ≤ 98 by decide)
    rw [show (2 : Rat) ^ (1 : Int) = 2 from (two_nat 1).trans rfl] at p8
    have p9 := le_mul (Rat.le_of_lt (two_pos 902)) p8
    grind
  obtain ⟨N, h1, h2⟩ := add_near s1 hc.1 hM
  have hN : row3 [a, b, c] = N := by
    show quietF (fadd (fadd (some a) (some b)) (some c)) = N
    rw [hS, h1, quiet_wd (Nat.le_of_lt h2.1)]
  refine ⟨N, hN, h2.1, h2.2.1, ?_, ?_⟩
  · have k1 : (vR S + vR c) ≤ (vR a + vR b + vR c) * (1 + u53) := by
      have : 0 ≤ vR c * u53 := Rat.mul_nonneg nc (by grind)
      grind
    have k2 := le_mul (show 0 ≤ 1 + u53 by grind) k1
    have := h2.2.2.1
    grind
  · have k1 : (vR a + vR b + vR c) * (1 - u53) ≤ (vR S + vR c) := by
      have : 0 ≤ vR c * u53 := Rat.mul_nonneg nc (by grind)
      grind
    have k2 := le_mul (show 0 ≤ 1 - u53 by grind) k1
    have := h2.2.2.2
    grind
theorem three_near {a b c : Nat} (ha : Part a) (hb : Part b) (hc : Part c) (h0 : a ≠ 0 ∨ b ≠ 0 ∨ c ≠ 0) :
    ∃ N, threeF a b c = N ∧ NearP N (vR a + vR b + vR c) ((1 - u53) * (1 - u53)) ((1 + u53) * (1 + u53)) := by
  have h : ∃ x y z, sort3 a b c = [x, y, z] ∧ Part x ∧ Part y ∧ Part z ∧ (x ≠ 0 ∨ y ≠ 0 ∨ z ≠ 0) ∧ vR x + vR y + vR z = vR a + vR b + vR c := by
    unfold sort3
    repeat' split
    · exact ⟨_, _, _, rfl, hc, hb, ha, by omega, by grind⟩
    · exact ⟨_, _, _, rfl, hb, hc, ha, by omega, by grind⟩
    · exact ⟨_, _, _, rfl, hb, ha, hc, by omega, by grind⟩
    · exact ⟨_, _, _, rfl, hc, ha, hb, by omega, by grind⟩
    · exact ⟨_, _, _, rfl, ha, hc, hb, by omega, by grind⟩
    · exact ⟨_, _, _, rfl, ha, hb, hc, by omega, by grind⟩
  obtain ⟨x, y, z, e, h1, h2, h3, h4, h5⟩ := h
  obtain ⟨N, k1, k2⟩ := row3_near h1 h2 h3 h4
  rw [h5] at k2
  exact ⟨N, by unfold threeF; rw [e]; exact k1, k2⟩

theorem order_dat {R Q : Nat} (hR : R < infR) (hQ : Q < infR) : ∃ x y : Nat, ∃ e : Int, fcmp (some R) (some Q) = some (compare (x : Int) (y : Int)) ∧ mg x e = vR R ∧ mg y e = vR Q := by
  have hi := infR_eq
  obtain ⟨m, i, d1, v1, _⟩ := dat_num hR false
  obtain ⟨n, j, d2, v2, _⟩ := dat_num hQ false
  have e1 := fcmp_wd false false (show R < 2 ^ 63 by omega) (show Q < 2 ^ 63 by omega)
  rw [wd_false, wd_false, d1, d2] at e1
  refine ⟨m <<< (i - min i j).toNat, n <<< (j - min i j).toNat, min i j, e1, ?_, ?_⟩
  · rw [mg_shift _ _ _ (by omega), v1]
  · rw [mg_shift _ _ _ (by omega), v2]
theorem mg_lt_iff (x y : Nat) (e : Int) : mg x e < mg y e ↔ x < y := by
  constructor
  · intro h
    rcases Nat.lt_or_ge x y with h1 | h1
    · exact h1
    · exact absurd h (Rat.not_lt.2 (mg_le h1 e))
  · intro h
    unfold mg
    exact lt_mul (two_pos e) (by exact_mod_cast h)
theorem fgt_true {R Q : Nat} (hR : R < infR) (hQ : Q < infR) (h : vR Q < vR R) : fgt (some R) (some Q) = true := by
  obtain ⟨x, y, e, h1, h2, h3⟩ := order_dat hR hQ
  rw [← h2, ← h3, mg_lt_iff] at h
  unfold fgt
  rw [h1, show compare (x : Int) (y : Int) = .gt by simp only [compare, compareOfLessAndEq]; rw [if_neg (by omega), if_neg (by omega)]]
  rfl
theorem fgt_false {R Q : Nat} (hR : R < infR) (hQ : Q < infR) (h : vR R ≤ vR Q) : fgt (some R) (some Q) = false := by
  obtain ⟨x, y, e, h1, h2, h3⟩ := order_dat hR hQ
  rw [← h2, ← h3] at h
  have hxy : ¬ y < x := fun h' => Rat.not_lt.2 h ((mg_lt_iff y x e).2 h')
  unfold fgt
  rw [h1]
  simp only [compare, compareOfLessAndEq]
  split
  · rfl
  · rw [if_pos (by omega)]; rfl
theorem fgt_0 {R : Nat} (hR : R < infR) (h0 : R ≠ 0) : fgt (some R) (some 0) = true :=
  fgt_true hR (by decide) (by rw [vR_0]; exact vR_pos hR h0)
/-- What a vector's part may be: nought, or of a middling size. -/
def Comp (X : Nat) : Prop := X < infR ∧ (X = 0 ∨ (2 : Rat) ^ (-400 : Int) ≤ vR X) ∧ vR X ≤ 2 ^ (400 : Int)
theorem sq_near {X : Nat} (s : Bool) (h : Comp X) : ∃ q, fmul (some (cw s X)) (some (cw s X)) = some q ∧ Part q ∧ (X ≠ 0 → q ≠ 0 ∧ (2 : Rat) ^ (-801 : Int) ≤ vR q) ∧ vR q ≤ 2 ^ (801 : Int) ∧ vR q ≤ vR X * vR X * (1 + u53) ∧ vR X * vR X * (1 - u53) ≤ vR q := by
  have p0 := two_pos (-1000)
  have p9 := two_pos 900
  by_cases h0 : X = 0
  · subst h0
    refine ⟨0, mul_00, ⟨h.1, .inl rfl, by rw [vR_0]; grind⟩, fun h => absurd rfl h, by rw [vR_0]; exact Rat.le_of_lt (two_pos _), ?_, ?_⟩ <;> rw [vR_0] <;> grind
  · have hx := h.2.1.resolve_left h0
    have hxp := vR_pos h.1 h0
    have l1 : (2 : Rat) ^ (-800 : Int) ≤ vR X * vR X := by
      have e : (2 : Rat) ^ (-800 : Int) = 2 ^ (-400 : Int) * 2 ^ (-400 : Int) := by rw [← two_add]; congr 1
      have a1 := le_mul (Rat.le_of_lt hxp) hx
      have a2 := le_mul (Rat.le_of_lt (two_pos (-400))) hx
      grind
    have l2 : vR X * vR X ≤ 2 ^ (800 : Int) := by
      have e : (2 : Rat) ^ (800 : Int) = 2 ^ (400 : Int) * 2 ^ (400 : Int) := by rw [← two_add]; congr 1
      have a1 := le_mul (Rat.le_of_lt hxp) h.2.2
      have a2 := le_mul (Rat.le_of_lt (two_pos 400)) h.2.2
      grind
    have hM : Mid (vR X * vR X) := by
      have b1 := two_le (show (-1022 : Int) ≤ -800 by decide)
      have b2 := two_le (show (800 : Int) ≤ 1000 by decide)
      exact ⟨by grind, by grind⟩
    obtain ⟨N, h1, h2⟩ := mul_near s s h.1 h.1 hM
    have hc : cw s X = wd s X := by rw [cw, if_neg h0]
    have hss : (s ^^ s) = false := by cases s <;> rfl
    rw [hss, wd_false] at h1
    have u1 := u53_one
    have u2 := u53_pos
    have hxx : 0 ≤ vR X * vR X := Rat.mul_nonneg (Rat.le_of_lt hxp) (Rat.le_of_lt hxp)
    have c1 : vR X * vR X ≤ 2 * (vR X * vR X * (1 - u53)) := by
      have : 0 ≤ vR X * vR X * (1 - 2 * u53) := Rat.mul_nonneg hxx (by grind)
      grind
    have c2 : vR X * vR X * (1 + u53) ≤ vR X * vR X * 2 := Rat.mul_le_mul_of_nonneg_left (by grind) hxx
    have n1 := h2.2.2.1
    have n2 := h2.2.2.2
    have e : (2 : Rat) ^ (-800 : Int) = 2 * 2 ^ (-801 : Int) := by
      have h := two_add 1 (-801)
      rw [show (1 : Int) + -801 = -800 by decide, show (2 : Rat) ^ (1 : Int) = 2 from (two_nat 1).trans rfl] at h
      exact h
    have e' : (2 : Rat) ^ (801 : Int) = 2 * 2 ^ (800 : Int) := by
      have h := two_add 1 800
      rw [show (1 : Int) + 800 = 801 by decide, show (2 : Rat) ^ (1 : Int) = 2 from (two_nat 1).trans rfl] at h
      exact h
    have b1 := two_le (show (-1000 : Int) ≤ -801 by decide)
    have b2 := two_le (show (801 : Int) ≤ 900 by decide)
    exact ⟨N, by rw [hc]; exact h1, ⟨h2.1, .inr (by grind), by grind⟩, fun _ => ⟨h2.2.1, by grind⟩, by grind, n1, n2⟩
/-- The length of a vector lies near the true one. -/
theorem len_near {X Y Z : Nat} (s t r : Bool) (hX : Comp X) (hY : Comp Y) (hZ : Comp Z) (h0 : X ≠ 0 ∨ Y ≠ 0 ∨ Z ≠ 0) :
    ∃ N, lenF ⟨cw s X, cw t Y, cw r Z⟩ = N ∧ N < infR ∧ N ≠ 0 ∧ vR N * vR N ≤ (vR X * vR X + vR Y * vR Y + vR Z * vR Z) * (1 + u53) ^ 6 ∧ (vR X * vR X + vR Y * vR Y + vR Z * vR Z) * (1 - u53) ^ 6 ≤ vR N * vR N := by
  obtain ⟨a, ea, pa, a0, a3, a1, a2⟩ := sq_near s hX
  obtain ⟨b, eb, pb, b0, b3, b1, b2⟩ := sq_near t hY
  obtain ⟨c, ec, pc, c0, c3, c1, c2⟩ := sq_near r hZ
  have hn : a ≠ 0 ∨ b ≠ 0 ∨ c ≠ 0 := by
    rcases h0 with h | h | h
    · exact .inl (a0 h).1
    · exact .inr (.inl (b0 h).1)
    · exact .inr (.inr (c0 h).1)
  obtain ⟨T, eT, t1, t2, t3, t4⟩ := three_near pa pb pc hn
  have u1 := u53_one
  have u2 := u53_pos
  have u3 := u53_lt
  have na := vR_nonneg pa.1
  have nb := vR_nonneg pb.1
  have nc := vR_nonneg pc.1
  have hge : (2 : Rat) ^ (-801 : Int) ≤ vR a + vR b + vR c := by
    rcases h0 with h | h | h
    · have := (a0 h).2; grind
    · have := (b0 h).2; grind
    · have := (c0 h).2; grind
  generalize hS : vR a + vR b + vR c = S at *
  have hSp : 0 < S := by have := two_pos (-801); grind
  have q1 : S ≤ 4 * (S * ((1 - u53) * (1 - u53))) := by
    have h1 : 0 ≤ (1 - 2 * u53) * (3 - 2 * u53) := Rat.mul_nonneg (by grind) (by grind)
    have := Rat.mul_nonneg (Rat.le_of_lt hSp) h1
    grind
  have q2 : S * ((1 + u53) * (1 + u53)) ≤ 4 * S := by
    have h1 : 0 ≤ (1 - u53) * (3 + u53) := Rat.mul_nonneg (by grind) (by grind)
    have := Rat.mul_nonneg (Rat.le_of_lt hSp) h1
    grind
  have g1 : (2 : Rat) ^ (-801 : Int) = 4 * 2 ^ (-803 : Int) := by
    have h := two_add 2 (-803)
    rw [show (2 : Int) + -803 = -801 by decide, show (2 : Rat) ^ (2 : Int) = 4 from (two_nat 2).trans rfl] at h
    exact h
  have g2 : (2 : Rat) ^ (805 : Int) = 16 * 2 ^ (801 : Int) := by
    have h := two_add 4 801
    rw [show (4 : Int) + 801 = 805 by decide, show (2 : Rat) ^ (4 : Int) = 16 from (two_nat 4).trans rfl] at h
    exact h
  have g3 := two_le (show (-1000 : Int) ≤ -803 by decide)
  have g4 := two_le (show (805 : Int) ≤ 1000 by decide)
  obtain ⟨N, hN, k1, k2, k3, k4⟩ := sqrt_near t1 (by grind) (by grind)
  refine ⟨N, ?_, k1, k2, ?_, ?_⟩
  · unfold lenF
    simp only [ea, eb, ec]
    show canonF (fsqrt (some (threeF a b c))) = N
    rw [eT, hN]
  · generalize hQ : vR X * vR X + vR Y * vR Y + vR Z * vR Z = Q
    have s1 : S ≤ Q * (1 + u53) := by grind
    have s2 := le_mul (show 0 ≤ (1 + u53) * (1 + u53) from Rat.mul_nonneg (by grind) (by grind)) s1
    have s3 : vR T ≤ Q * ((1 + u53) * ((1 + u53) * (1 + u53))) := by grind
    have s4 := le_mul (show 0 ≤ (1 + u53) * ((1 + u53) * (1 + u53)) from Rat.mul_nonneg (by grind) (Rat.mul_nonneg (by grind) (by grind))) s3
    grind
  · generalize hQ : vR X * vR X + vR Y * vR Y + vR Z * vR Z = Q
    have s1 : Q * (1 - u53) ≤ S := by grind
    have s2 := le_mul (show 0 ≤ (1 - u53) * (1 - u53) from Rat.mul_nonneg (by grind) (by grind)) s1
    have s3 : Q * ((1 - u53) * ((1 - u53) * (1 - u53))) ≤ vR T := by grind
    have s4 := le_mul (show 0 ≤ (1 - u53) * ((1 - u53) * (1 - u53)) from Rat.mul_nonneg (by grind) (Rat.mul_nonneg (by grind) (by grind))) s3
    grind
end Go.Proofs.YtbfdbpmdibjanaaDoor
