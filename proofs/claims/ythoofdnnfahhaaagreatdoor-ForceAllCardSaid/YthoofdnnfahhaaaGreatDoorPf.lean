/- Plain facts of reconstruction over a flat bed. No condition. -/
import Derived.Test.YthoofdnnfahhaaaGreatDoorMn
import Derived.Test.YthoofdnnfahhaaaGreatDoorFq
namespace Go.Proofs.YthoofdnnfahhaaaGreatDoor
open Go Go.Eng Ieee
set_option maxRecDepth 100000
set_option linter.unusedSimpArgs false
set_option linter.unusedVariables false

theorem mg_le_iff {x y : Nat} {e : Int} (h : mg y e ≤ mg x e) : y ≤ x := by
  rcases Nat.lt_or_ge x y with h1 | h1
  · exact absurd ((mg_lt_iff x y e).2 h1) (Rat.not_lt.2 h)
  · exact h1
theorem sum_dif (m n : Nat) (i j : Int) (h : mg n j ≤ mg m i) : ∃ k, (Ieee.Datum.number false m i).sum (.number true n j) = some (.number false k (min i j)) ∧ mg k (min i j) = mg m i - mg n j := by
  have h1 := mg_shift m i (min i j) (by omega)
  have h2 := mg_shift n j (min i j) (by omega)
  have hle : n <<< (j - min i j).toNat ≤ m <<< (i - min i j).toNat := mg_le_iff (e := min i j) (by rw [h1, h2]; exact h)
  refine ⟨m <<< (i - min i j).toNat - n <<< (j - min i j).toNat, ?_, ?_⟩
  · have hs : ∀ (m k : Nat), Ieee.signed false m k = ((m <<< k : Nat) : Int) := fun _ _ => rfl
    have ht : ∀ (m k : Nat), Ieee.signed true m k = -((m <<< k : Nat) : Int) := fun _ _ => rfl
    have key : ∀ (x y : Nat) (e : Int), y ≤ x → (Ieee.Datum.number (if (x : Int) + -(y : Int) = 0 then false && true else decide ((x : Int) + -(y : Int) < 0)) ((x : Int) + -(y : Int)).natAbs e) = .number false (x - y) e := by
      intro x y e hxy
      have h1 : ((x : Int) + -(y : Int)).natAbs = x - y := by omega
      have h2 : ¬ ((x : Int) + -(y : Int) < 0) := by omega
      rw [h1, decide_eq_false h2]
      congr 1
      split <;> rfl
    unfold Ieee.Datum.sum
    simp only [hs, ht]
    rw [key _ _ _ hle]
  · have := mg_add (m <<< (i - min i j).toNat - n <<< (j - min i j).toNat) (n <<< (j - min i j).toNat) (min i j)
    rw [Nat.sub_add_cancel hle, h1, h2] at this
    rw [this]; grind
theorem sub_rd {R Q : Nat} (hR : R < infR) (hQ : Q < infR) (h : Q ≤ R) : ∃ N, fsub (some R) (some Q) = some N ∧ Rd (vR R - vR Q) N := by
  have hi := infR_eq
  obtain ⟨m, i, d1, v1, _⟩ := dat_num hR false
  obtain ⟨n, j, d2, v2, _⟩ := dat_num hQ false
  have e1 := fsub_is' (wd false R) (wd false Q)
  obtain ⟨k, hk, hv⟩ := sum_dif m n i j (by rw [v1, v2]; exact vR_le h)
  rw [read_wd false (by omega), read_wd false (by omega), d1, d2, show (Ieee.Datum.number false n j).opposite = .number true n j from rfl, hk, Option.map_some, write_num] at e1
  rw [wd_false, wd_false] at e1
  refine ⟨_, e1, ?_⟩
  rw [← v1, ← v2, ← hv]
  exact rd_near _ _
theorem add_rd {R Q : Nat} (hR : R < infR) (hQ : Q < infR) : ∃ N, fadd (some R) (some Q) = some N ∧ Rd (vR R + vR Q) N := by
  have hi := infR_eq
  obtain ⟨m, i, d1, v1, _⟩ := dat_num hR false
  obtain ⟨n, j, d2, v2, _⟩ := dat_num hQ false
  have e1 := fadd_is (wd false R) (wd false Q)
  obtain ⟨k, hk, hv⟩ := sum_pos m n i j
  rw [read_wd false (by omega), read_wd false (by omega), d1, d2, hk, Option.map_some, write_num] at e1
  rw [wd_false, wd_false] at e1
  refine ⟨_, e1, ?_⟩
  rw [v1, v2] at hv
  rw [← hv]
  exact rd_near _ _
theorem mul_rd {R Q : Nat} (s t : Bool) (hR : R < infR) (hQ : Q < infR) : ∃ N, fmul (some (wd s R)) (some (wd t Q)) = some (wd (s ^^ t) N) ∧ Rd (vR R * vR Q) N := by
  have hi := infR_eq
  obtain ⟨m, i, d1, v1, _⟩ := dat_num hR s
  obtain ⟨n, j, d2, v2, _⟩ := dat_num hQ t
  have e : fmul (some (wd s R)) (some (wd t Q)) = ((f64.read (wd s R)).product (f64.read (wd t Q))).map f64.write := rfl
  rw [e, read_wd s (by omega), read_wd t (by omega), d1, d2]
  refine ⟨f64.nearest false (m * n) (i + j), ?_, ?_⟩
  · show some (f64.nearest (s ^^ t) (m * n) (i + j)) = _
    rw [nearest_sign]
  · rw [← v1, ← v2, mg_mul]
    exact rd_near _ _
theorem add_neg' (R : Nat) {Q : Nat} (hQ : Q ≤ infR) : fadd (some R) (some (wd true Q)) = fsub (some R) (some Q) := by
  have e := read_opp false hQ
  rw [fadd_is, fsub_is', show wd true Q = wd (!false) Q from rfl, e, wd_false]
theorem add_z {R : Nat} (hR : R < infR) : fadd (some R) (some 0) = some R := by
  obtain ⟨N, h1, h2⟩ := add_rd hR (show 0 < infR by decide)
  rw [h1, h2.eq (by rw [vR_0]; grind) (Nat.le_of_lt hR)]
theorem z_add {R : Nat} (hR : R < infR) : fadd (some 0) (some R) = some R := by
  obtain ⟨N, h1, h2⟩ := add_rd (show 0 < infR by decide) hR
  rw [h1, h2.eq (by rw [vR_0]; grind) (Nat.le_of_lt hR)]
theorem sub_z {R : Nat} (hR : R < infR) : fsub (some R) (some 0) = some R := by
  obtain ⟨N, h1, h2⟩ := sub_rd hR (show 0 < infR by decide) (Nat.zero_le _)
  rw [h1, h2.eq (by rw [vR_0]; grind) (Nat.le_of_lt hR)]
theorem vR_half' : vR halfB = 1 / 2 := by
  have e : vR halfB = mg (2 ^ 52) (-53) := by
    unfold vR
    rw [if_neg (by decide)]
    have e1 : 2 ^ 52 + halfB % 2 ^ 52 = 2 ^ 52 := by decide
    have e2 : halfB / 2 ^ 52 - 1 = 1021 := by decide
    rw [e1, e2]
    congr 1
  rw [e]
  unfold mg
  rw [← two_nat, ← two_add, show ((52 : Nat) : Int) + -53 = -1 by decide]
  have := two_add (-1) 1
  rw [show (-1 : Int) + 1 = 0 by decide, two_0, two_1] at this
  grind
/-- Half of a word that is not tiny is a word. -/
theorem half_word {R : Nat} (hR : R < infR) (h : (2 : Rat) ^ (-1000 : Int) ≤ vR R) : ∃ T, T ≤ R ∧ 2 * vR T = vR R := by
  obtain ⟨q, k, rfl, k1, k2, k3, _⟩ := next_at R
  rcases Nat.eq_zero_or_pos q with rfl | hq
  · exfalso
    rw [k3] at h
    have h1 : mg k (-1074 + ((0 : Nat) : Int)) < 2 ^ (-1000 : Int) := by
      unfold mg
      have e : (2 : Rat) ^ (-1000 : Int) = ((2 ^ 74 : Nat) : Rat) * 2 ^ (-1074 + ((0 : Nat) : Int)) := by
        rw [← two_nat, ← two_add]; rfl
      rw [e]
      refine lt_mul (two_pos _) ?_
      exact_mod_cast (show k < 2 ^ 74 by omega)
    exact absurd h1 (Rat.not_lt.2 h)
  · obtain ⟨p, rfl⟩ : ∃ p, q = p + 1 := ⟨q - 1, by omega⟩
    have hv := vR_at p k (by omega) (fun h => k2 (by omega))
    refine ⟨p * 2 ^ 52 + k, by omega, ?_⟩
    rw [hv, k3]
    unfold mg
    have e : (2 : Rat) ^ (-1074 + ((p + 1 : Nat) : Int)) = 2 * 2 ^ (-1074 + (p : Int)) := by
      have := two_add (-1074 + (p : Int)) 1
      rw [show -1074 + (p : Int) + 1 = -1074 + ((p + 1 : Nat) : Int) by omega, two_1] at this
      rw [this]; grind
    rw [e]; grind
/-- A depth's word. -/
def Dep (o : Option Nat) (R : Nat) : Prop := o = some R ∧ R < infR ∧ (R = 0 ∨ (2 : Rat) ^ (-1000 : Int) ≤ vR R)
theorem int_word {k : Int} (h1 : 1 ≤ k) (h2 : k < 18446744073709551616) : ∃ N, nI k = N ∧ Near N (k.natAbs : Rat) := by
  have e := int_near k
  rw [decide_eq_false (by omega), wd_false] at e
  refine ⟨_, e, ?_⟩
  have := near_word k.natAbs 0 (by
    rw [mg_0]
    have a := two_le (show (-1022 : Int) ≤ 0 by decide)
    have b := two_le (show (64 : Int) ≤ 1000 by decide)
    rw [two_0] at a
    rw [show (2 : Rat) ^ (64 : Int) = 18446744073709551616 from (two_nat 64).trans rfl] at b
    have c : (1 : Rat) ≤ (k.natAbs : Rat) := by exact_mod_cast (show 1 ≤ k.natAbs by omega)
    have d : (k.natAbs : Rat) ≤ 18446744073709551616 := by exact_mod_cast (show k.natAbs ≤ 18446744073709551616 by omega)
    exact ⟨Rat.le_trans a c, Rat.le_trans d b⟩)
  rwa [mg_0] at this
theorem dep_word {w a : Int} (hw : w < 18446744073709551616) (ha : a < 18446744073709551616) : ∃ R, Dep (depthF w a) R := by
  by_cases h : w < 1 ∨ a < 1
  · exact ⟨0, by unfold depthF; rw [if_pos h], by decide, .inl rfl⟩
  obtain ⟨R, e1, n1⟩ := int_word (k := w) (by omega) hw
  obtain ⟨Q, e2, n2⟩ := int_word (k := a) (by omega) ha
  have big : (2 : Rat) ^ (64 : Int) = 18446744073709551616 := (two_nat 64).trans rfl
  have u1 := u53_lt
  have u0 := u53_pos
  have u2 := u53_one
  have v0 := u54_pos
  have v2 := u54_one
  have w1 : (1 : Rat) ≤ (w.natAbs : Rat) := by exact_mod_cast (show 1 ≤ w.natAbs by omega)
  have w2 : (w.natAbs : Rat) ≤ 18446744073709551616 := by exact_mod_cast (show w.natAbs ≤ 18446744073709551616 by omega)
  have a1 : (1 : Rat) ≤ (a.natAbs : Rat) := by exact_mod_cast (show 1 ≤ a.natAbs by omega)
  have a2 : (a.natAbs : Rat) ≤ 18446744073709551616 := by exact_mod_cast (show a.natAbs ≤ 18446744073709551616 by omega)
  generalize (w.natAbs : Rat) = x at *
  generalize (a.natAbs : Rat) = y at *
  have r1 : vR R ≤ 36893488147419103232 := by
    have := le_mul (show (0 : Rat) ≤ 1 + u53 by grind) w2
    have := n1.2.2.1
    grind
  have r2 : (1 : Rat) / 2 ≤ vR R := by
    have := le_mul (show (0 : Rat) ≤ 1 - u53 by grind) w1
    have := n1.2.2.2
    grind
  have q1 : vR Q ≤ 36893488147419103232 := by
    have := le_mul (show (0 : Rat) ≤ 1 + u53 by grind) a2
    have := n2.2.2.1
    grind
  have q2 : (1 : Rat) / 2 ≤ vR Q := by
    have := le_mul (show (0 : Rat) ≤ 1 - u53 by grind) a1
    have := n2.2.2.2
    grind
  have t1 : (2 : Rat) ^ (-1020 : Int) ≤ 2 ^ (-70 : Int) := two_le (by decide)
  have t2 : (2 : Rat) ^ (70 : Int) ≤ 2 ^ (999 : Int) := two_le (by decide)
  have t3 : (2 : Rat) ^ (-1000 : Int) ≤ 2 ^ (-70 : Int) := two_le (by decide)
  have t4 : (2 : Rat) ^ (70 : Int) = 1180591620717411303424 := (two_nat 70).trans rfl
  have t5 : (2 : Rat) ^ (-70 : Int) * 1180591620717411303424 = 1 := by
    have := two_add (-70) 70
    rw [show (-70 : Int) + 70 = 0 by decide, t4] at this
    rw [← this]; exact two_0
  have p1 := two_pos (-1020)
  generalize hz1 : (2 : Rat) ^ (-1020 : Int) = z1 at *
  generalize hz2 : (2 : Rat) ^ (999 : Int) = z2 at *
  generalize hz3 : (2 : Rat) ^ (-1000 : Int) = z3 at *
  generalize (2 : Rat) ^ (-70 : Int) = z4 at *
  generalize (2 : Rat) ^ (70 : Int) = z5 at *
  have h1 : z1 * vR Q ≤ vR R := by
    have k1 := le_mul (show (0 : Rat) ≤ vR Q by grind) t1
    have k2 := le_mul (show (0 : Rat) ≤ z4 by grind) q1
    grind
  have h2 : vR R ≤ z2 * vR Q := by
    have k1 := le_mul (show (0 : Rat) ≤ vR Q by grind) t2
    rw [t4] at k1
    grind
  obtain ⟨N, f1, f2, f3, f4, f5⟩ := div_near false n1.1 n2.1 n1.2.1 n2.2.1 (by rw [hz1]; exact h1) (by rw [hz2]; exact h2)
  rw [wd_false] at f1
  have f0 : fdiv (some R) (some Q) = some N := by
    rcases num_div (some R) (some Q) with hn | ⟨u, T, hT, hn⟩
    · rw [hn] at f1
      have : canonF none = qn := rfl
      rw [this, cw, if_neg f3, wd_false] at f1
      have : infR < qn := by decide
      omega
    · rw [hn] at f1 ⊢
      rw [canon_wd u hT, cw, cw, if_neg f3, wd_false] at f1
      by_cases h0 : T = 0
      · rw [if_pos h0] at f1; exact absurd f1.symm f3
      · rw [if_neg h0] at f1; rw [f1]
  refine ⟨N, ?_, f2, .inr ?_⟩
  · unfold depthF
    rw [if_neg h, e1, e2, f0]
  · refine Rat.not_lt.1 fun hlt => ?_
    rw [hz3] at hlt
    have hlt2 : vR N < z4 := by grind
    have k1 := lt_mul (show (0 : Rat) < vR Q by grind) hlt2
    have k2 := le_mul (show (0 : Rat) ≤ z4 by grind) q1
    have k3 : (1 - u54) * (1 - u53) ≥ 1 / 2 := by
      have := u53_is
      have := u54_is
      grind
    generalize (1 - u54) * (1 - u53) = g at *
    have k4 := le_mul (show (0 : Rat) ≤ g by grind) r2
    grind
end Go.Proofs.YthoofdnnfahhaaaGreatDoor
