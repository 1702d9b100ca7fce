/- Words by their size alone: products and differences, without a lower bound. No condition. -/
import Derived.Test.YtbfdbpmdibjanaaDoorBg
import Derived.Test.YtbfdbpmdibjanaaDoorM
import Derived.Test.YtbfdbpmdibjanaaDoorU
namespace Go.Proofs.YtbfdbpmdibjanaaDoor
open Go Go.Eng Ieee
set_option maxRecDepth 100000
set_option linter.unusedSimpArgs false
set_option linter.unusedVariables false

def tau : Rat := 2 ^ (-1000 : Int)
theorem near_size (m : Nat) (e : Int) (h : mg m e ≤ 2 ^ (1000 : Int)) : f64.nearest false m e < infR ∧ vR (f64.nearest false m e) ≤ mg m e * (1 + u53) + tau := by
  have ht : 0 < tau := two_pos _
  by_cases hm : m = 0
  · subst hm
    have h0 : f64.nearest false 0 e = 0 := rfl
    have h3 : mg 0 e = 0 := by unfold mg; rw [show ((0 : Nat) : Rat) = 0 from rfl, Rat.zero_mul]
    rw [h0, vR_0, h3]
    exact ⟨by decide, by grind⟩
  · have hf := near_fin m e hm h
    obtain ⟨h1, _⟩ := near_err m e hm hf
    refine ⟨hf, ?_⟩
    have hp := mg_pos hm e
    have h2 : vR (f64.nearest false m e) ≤ mg m e + 2 ^ (lastP m e - 1) := h1
    rcases (by unfold lastP; omega : lastP m e = e + m.log2 - 52 ∨ lastP m e = -1074) with h4 | h4
    · have h5 := (mg_log m e hm).1
      have h6 : (2 : Rat) ^ (lastP m e - 1) = 2 ^ (e + m.log2) * u53 := by
        rw [h4, show u53 = 2 ^ (-53 : Int) from rfl, ← two_add]; congr 1; omega
      have h7 := le_mul (Rat.le_of_lt u53_pos) h5
      rw [h6] at h2
      grind
    · have h8 := two_le (show (-1075 : Int) ≤ -1000 by decide)
      rw [h4, show (-1074 : Int) - 1 = -1075 by decide] at h2
      have h9 := Rat.mul_nonneg (Rat.le_of_lt hp) (Rat.le_of_lt u53_pos)
      have : (2 : Rat) ^ (-1075 : Int) ≤ tau := h8
      grind
/-- A finite word of at most this size. -/
def Sz (R : Nat) (x : Rat) : Prop := R < infR ∧ vR R ≤ x
theorem mul_size (s t : Bool) {R Q : Nat} {x y : Rat} (hR : Sz R x) (hQ : Sz Q y) (h : x * y ≤ 2 ^ (1000 : Int)) : ∃ N, fmul (some (wd s R)) (some (wd t Q)) = some (wd (s ^^ t) N) ∧ Sz N (x * y * (1 + u53) + tau) := by
  have hi := infR_eq
  obtain ⟨m, i, d1, v1, _⟩ := dat_num hR.1 s
  obtain ⟨n, j, d2, v2, _⟩ := dat_num hQ.1 t
  have e : fmul (some (wd s R)) (some (wd t Q)) = ((f64.read (wd s R)).product (f64.read (wd t Q))).map f64.write := rfl
  have a0 := vR_nonneg hR.1
  have b0 := vR_nonneg hQ.1
  have hxy : vR R * vR Q ≤ x * y := by
    have i1 := le_mul b0 hR.2
    have i2 := Rat.mul_le_mul_of_nonneg_left hQ.2 (show 0 ≤ x by have := hR.2; grind)
    grind
  obtain ⟨k1, k2⟩ := near_size (m * n) (i + j) (by rw [← mg_mul, v1, v2]; grind)
  rw [← mg_mul, v1, v2] at k2
  have hR1 := hR.1
  have hQ1 := hQ.1
  refine ⟨f64.nearest false (m * n) (i + j), ?_, k1, ?_⟩
  · rw [e, read_wd s (by omega), read_wd t (by omega), d1, d2]
    show some (f64.nearest (s ^^ t) (m * n) (i + j)) = _
    rw [nearest_sign]
  · have i3 := le_mul (show 0 ≤ 1 + u53 by have := u53_pos; grind) hxy
    grind
theorem sub_size (s t : Bool) {A B : Nat} {x y : Rat} (hA : Sz A x) (hB : Sz B y) (h : x + y ≤ 2 ^ (1000 : Int)) : ∃ r D, canonF (fsub (some (wd s A)) (some (wd t B))) = cw r D ∧ Sz D ((x + y) * (1 + u53) + tau) := by
  have hi := infR_eq
  have hA1 := hA.1
  have hB1 := hB.1
  obtain ⟨m, i, d1, v1, _⟩ := dat_num hA.1 s
  obtain ⟨n, j, d2, v2, _⟩ := dat_num hB.1 t
  have na := vR_nonneg hA.1
  have nb := vR_nonneg hB.1
  have hs1 := signed_val s m i (min i j) (by omega)
  have hs2 := signed_val (!t) n j (min i j) (by omega)
  rw [v1] at hs1
  rw [v2] at hs2
  generalize hT : Ieee.signed s m (i - min i j).toNat + Ieee.signed (!t) n (j - min i j).toNat = T at *
  have hTv : (T : Rat) * 2 ^ (min i j) = sg s (vR A) + sg (!t) (vR B) := by
    rw [← hT, Rat.intCast_add]
    grind
  have hsum : (Ieee.Datum.number s m i).sum (Ieee.Datum.number (!t) n j) = some (.number (if T = 0 then s && !t else decide (T < 0)) T.natAbs (min i j)) := by
    rw [← hT]; rfl
  have hsub : fsub (some (wd s A)) (some (wd t B)) = some (f64.nearest (if T = 0 then s && !t else decide (T < 0)) T.natAbs (min i j)) := by
    rw [fsub_is, read_wd s (by omega), read_wd t (by omega), d1, d2, Ieee.Datum.opposite, hsum, Option.map_some, write_num]
  rw [hsub]
  generalize (if T = 0 then s && !t else decide (T < 0)) = σ
  have hb : ∀ (s : Bool) (v : Rat), 0 ≤ v → -v ≤ sg s v ∧ sg s v ≤ v := by
    intro s v hv
    unfold sg
    cases s <;> simp only [Bool.false_eq_true, if_false, if_true] <;> constructor <;> grind
  have b1 := hb s _ na
  have b2 := hb (!t) _ nb
  have hx := hA.2
  have hy := hB.2
  have hmg : mg T.natAbs (min i j) ≤ x + y := by
    unfold mg
    rcases Int.le_total 0 T with h0 | h0
    · have e : ((T.natAbs : Nat) : Rat) = (T : Rat) := by
        obtain ⟨k, rfl⟩ : ∃ k : Nat, T = (k : Int) := ⟨T.natAbs, by omega⟩
        rw [Int.natAbs_natCast]; rfl
      rw [e, hTv]
      grind
    · have e : ((T.natAbs : Nat) : Rat) = -(T : Rat) := by
        obtain ⟨k, rfl⟩ : ∃ k : Nat, T = -(k : Int) := ⟨T.natAbs, by omega⟩
        rw [Int.natAbs_neg, Int.natAbs_natCast, Rat.intCast_neg]
        show ((k : Nat) : Rat) = - -((k : Nat) : Rat)
        grind
      rw [e, Rat.neg_mul, hTv]
      grind
  obtain ⟨k1, k2⟩ := near_size T.natAbs (min i j) (by grind)
  refine ⟨σ, f64.nearest false T.natAbs (min i j), ?_, k1, ?_⟩
  · rw [nearest_sign, canon_wd σ (Nat.le_of_lt k1)]
  · have i3 := le_mul (show 0 ≤ 1 + u53 by have := u53_pos; grind) hmg
    grind
theorem add_size {R Q : Nat} {x y : Rat} (hR : Sz R x) (hQ : Sz Q y) (h : x + y ≤ 2 ^ (1000 : Int)) : ∃ N, fadd (some R) (some Q) = some N ∧ Sz N ((x + y) * (1 + u53) + tau) := by
  have hi := infR_eq
  have hR1 := hR.1
  have hQ1 := hQ.1
  obtain ⟨m, i, d1, v1, _⟩ := dat_num hR.1 false
  obtain ⟨n, j, d2, v2, _⟩ := dat_num hQ.1 false
  have e1 := fadd_is (wd false R) (wd false Q)
  obtain ⟨k, hk, hv⟩ := sum_pos m n i j
  have hx := hR.2
  have hy := hQ.2
  obtain ⟨k1, k2⟩ := near_size k (min i j) (by rw [hv, v1, v2]; grind)
  rw [hv, v1, v2] at k2
  refine ⟨f64.nearest false k (min i j), ?_, k1, ?_⟩
  · rw [read_wd false (by omega), read_wd false (by omega), d1, d2, hk, Option.map_some, write_num, wd_false, wd_false] at e1
    exact e1
  · have i3 := le_mul (show 0 ≤ 1 + u53 by have := u53_pos; grind) (show vR R + vR Q ≤ x + y by grind)
    grind
theorem tau_small : tau ≤ 1 / 1000 := by
  have h := two_le (show (-1000 : Int) ≤ -10 by decide)
  have h2 := two_add (-10) 10
  rw [show (-10 : Int) + 10 = 0 by decide, two_0, show (2 : Rat) ^ (10 : Int) = 1024 from (two_nat 10).trans rfl] at h2
  have h3 : tau ≤ 2 ^ (-10 : Int) := h
  grind
theorem big_1000 : (100 : Rat) ≤ 2 ^ (1000 : Int) := by
  have h := two_le (show (7 : Int) ≤ 1000 by decide)
  rw [show (2 : Rat) ^ (7 : Int) = 128 from (two_nat 7).trans rfl] at h
  grind
theorem row_size {a b c : Nat} (ha : a < infR) (hb : b < infR) (hc : c < infR) (h : vR a + vR b + vR c ≤ 17 / 2) : ∃ N, row3 [a, b, c] = N ∧ Sz N (43 / 5) := by
  have na := vR_nonneg ha
  have nb := vR_nonneg hb
  have nc := vR_nonneg hc
  have e3 := u53_is
  have t0 : 0 < tau := two_pos _
  have t1 := tau_small
  have b0 := big_1000
  obtain ⟨S, hS, s1, s2⟩ := add_size (R := a) (Q := b) ⟨ha, Rat.le_refl⟩ ⟨hb, Rat.le_refl⟩ (by grind)
  have ns := vR_nonneg s1
  have s3 : vR S ≤ vR a + vR b + 1 / 500 := by
    have h1 : (vR a + vR b) * u53 ≤ 1 / 1000 := by
      have := le_mul (show (0 : Rat) ≤ u53 by rw [e3]; decide +kernel) (show vR a + vR b ≤ 17 / 2 by grind)
      have k : (17 / 2 : Rat) * u53 ≤ 1 / 1000 := by rw [e3]; decide +kernel
      grind
    grind
  obtain ⟨N, hN, n1, n2⟩ := add_size (R := S) (Q := c) ⟨s1, Rat.le_refl⟩ ⟨hc, Rat.le_refl⟩ (by grind)
  refine ⟨N, ?_, n1, ?_⟩
  · show quietF (fadd (fadd (some a) (some b)) (some c)) = N
    rw [hS, hN, quiet_wd (Nat.le_of_lt n1)]
  · have h1 : (vR S + vR c) * u53 ≤ 1 / 1000 := by
      have := le_mul (show (0 : Rat) ≤ u53 by rw [e3]; decide +kernel) (show vR S + vR c ≤ 9 by grind)
      have k : (9 : Rat) * u53 ≤ 1 / 1000 := by rw [e3]; decide +kernel
      grind
    grind
theorem three_size {a b c : Nat} (ha : a < infR) (hb : b < infR) (hc : c < infR) (h : vR a + vR b + vR c ≤ 17 / 2) : ∃ N, threeF a b c = N ∧ Sz N (43 / 5) := by
  unfold threeF sort3
  repeat' split
  all_goals exact row_size (by assumption) (by assumption) (by assumption) (by grind)
theorem sqrt_size {R : Nat} (hR : Sz R (43 / 5)) : ∃ N, canonF (fsqrt (some R)) = N ∧ Sz N 3 := by
  have hi := infR_eq
  have hR1 := hR.1
  have hR2 := hR.2
  have e3 := u53_is
  have t0 : 0 < tau := two_pos _
  have t1 := tau_small
  have b0 := big_1000
  by_cases h0 : R = 0
  · subst h0
    exact ⟨0, by decide +kernel, by decide, by rw [vR_0]; grind⟩
  · obtain ⟨m, i, d1, v1, m0⟩ := dat_num hR.1 false
    obtain ⟨q, e, hq, q0, k1, _⟩ := root_ok m i (m0 h0)
    rw [v1] at k1
    have k1 : mg q e * mg q e ≤ vR R * (1 + u53) := k1
    have hqp := mg_pos q0 e
    have hle : mg q e ≤ 74 / 25 := by
      refine Rat.not_lt.1 fun h => ?_
      have a1 := sq_lt (show (0 : Rat) < 74 / 25 by decide +kernel) h
      have a2 := le_mul (show (0 : Rat) ≤ 1 + u53 by rw [e3]; decide +kernel) hR2
      have a3 : (43 / 5 : Rat) * (1 + u53) < 74 / 25 * (74 / 25) := by rw [e3]; decide +kernel
      grind
    obtain ⟨n1, n2⟩ := near_size q e (by grind)
    have hs : fsqrt (some R) = some (wd false (f64.nearest false q e)) := by
      have e1 := fsqrt_is (wd false R)
      rw [dig54, read_wd false (by omega), d1, hq, Option.map_some, write_num, wd_false] at e1
      rw [wd_false]
      exact e1
    refine ⟨cw false (f64.nearest false q e), by rw [hs, canon_wd false (Nat.le_of_lt n1)], ?_⟩
    have hcw : cw false (f64.nearest false q e) = f64.nearest false q e := by
      unfold cw
      split
      · rename_i h; exact h.symm
      · exact wd_false _
    rw [hcw]
    refine ⟨n1, ?_⟩
    have h1 : mg q e * u53 ≤ 1 / 1000 := by
      have := le_mul (show (0 : Rat) ≤ u53 by rw [e3]; decide +kernel) hle
      have k : (74 / 25 : Rat) * u53 ≤ 1 / 1000 := by rw [e3]; decide +kernel
      grind
    grind
theorem cw_is (s : Bool) (A : Nat) : ∃ s', cw s A = wd s' A := by
  unfold cw
  split
  · rename_i h; subst h; exact ⟨false, rfl⟩
  · exact ⟨s, rfl⟩
theorem sq_size (s : Bool) {A : Nat} (h : Sz A 3) : ∃ q, fmul (some (cw s A)) (some (cw s A)) = some q ∧ Sz q (vR A * vR A + 1 / 50) := by
  have e3 := u53_is
  have t1 := tau_small
  have b0 := big_1000
  have na := vR_nonneg h.1
  have h2 := sq_le na h.2
  obtain ⟨s', hs⟩ := cw_is s A
  obtain ⟨q, h3, h4, h5⟩ := mul_size s' s' (R := A) (Q := A) ⟨h.1, Rat.le_refl⟩ ⟨h.1, Rat.le_refl⟩ (by grind)
  refine ⟨q, ?_, h4, ?_⟩
  · rw [hs, h3, Bool.xor_self, wd_false]
  · have h1 : vR A * vR A * u53 ≤ 1 / 1000 := by
      have := le_mul (show (0 : Rat) ≤ u53 by rw [e3]; decide +kernel) h2
      have k : (3 * 3 : Rat) * u53 ≤ 1 / 1000 := by rw [e3]; decide +kernel
      grind
    grind
theorem len_size (s t r : Bool) {A B C : Nat} (hA : Sz A 3) (hB : Sz B 3) (hC : Sz C 3) (h : vR A * vR A + vR B * vR B + vR C * vR C ≤ 42 / 5) : ∃ N, lenF ⟨cw s A, cw t B, cw r C⟩ = N ∧ Sz N 3 := by
  obtain ⟨a, ea, a1, a2⟩ := sq_size s hA
  obtain ⟨b, eb, b1, b2⟩ := sq_size t hB
  obtain ⟨c, ec, c1, c2⟩ := sq_size r hC
  obtain ⟨S, hS, s1⟩ := three_size a1 b1 c1 (by grind)
  obtain ⟨N, hN, n1⟩ := sqrt_size s1
  refine ⟨N, ?_, n1⟩
  unfold lenF
  simp only [ea, eb, ec, threeO, hS, hN]
theorem prod_size (s t : Bool) {A B : Nat} (hA : Sz A (3 / 2)) (hB : Sz B (3 / 2)) : ∃ r N, fmul (some (cw s A)) (some (cw t B)) = some (wd r N) ∧ Sz N (vR A * vR B + 1 / 5000) := by
  have e3 := u53_is
  have b0 := big_1000
  have na := vR_nonneg hA.1
  have nb := vR_nonneg hB.1
  have t1 : tau ≤ 1 / 10000 := by
    have h := two_le (show (-1000 : Int) ≤ -20 by decide)
    have h2 := two_add (-20) 20
    rw [show (-20 : Int) + 20 = 0 by decide, two_0, show (2 : Rat) ^ (20 : Int) = 1048576 from (two_nat 20).trans rfl] at h2
    have h3 : tau ≤ 2 ^ (-20 : Int) := h
    grind
  have hab : vR A * vR B ≤ 9 / 4 := by
    have i1 := le_mul nb hA.2
    have i2 := hB.2
    grind
  obtain ⟨s', hs⟩ := cw_is s A
  obtain ⟨t', ht⟩ := cw_is t B
  obtain ⟨N, h3, h4, h5⟩ := mul_size s' t' (R := A) (Q := B) ⟨hA.1, Rat.le_refl⟩ ⟨hB.1, Rat.le_refl⟩ (by grind)
  refine ⟨_, N, by rw [hs, ht, h3], h4, ?_⟩
  have h1 : vR A * vR B * u53 ≤ 1 / 10000 := by
    have := le_mul (show (0 : Rat) ≤ u53 by rw [e3]; decide +kernel) hab
    have k : (9 / 4 : Rat) * u53 ≤ 1 / 10000 := by rw [e3]; decide +kernel
    grind
  grind
theorem part_size (s t p q : Bool) {A B C D : Nat} (hA : Sz A (3 / 2)) (hB : Sz B (3 / 2)) (hC : Sz C (3 / 2)) (hD : Sz D (3 / 2)) :
    ∃ r X, canonF (fsub (fmul (some (cw s A)) (some (cw t B))) (fmul (some (cw p C)) (some (cw q D)))) = cw r X ∧ Sz X (vR A * vR B + vR C * vR D + 1 / 1000) := by
  have e3 := u53_is
  have b0 := big_1000
  have na := vR_nonneg hA.1
  have nb := vR_nonneg hB.1
  have nc := vR_nonneg hC.1
  have nd := vR_nonneg hD.1
  have t1 : tau ≤ 1 / 10000 := by
    have h := two_le (show (-1000 : Int) ≤ -20 by decide)
    have h2 := two_add (-20) 20
    rw [show (-20 : Int) + 20 = 0 by decide, two_0, show (2 : Rat) ^ (20 : Int) = 1048576 from (two_nat 20).trans rfl] at h2
    have h3 : tau ≤ 2 ^ (-20 : Int) := h
    grind
  have hab : vR A * vR B ≤ 9 / 4 := by
    have i1 := le_mul nb hA.2
    have i2 := hB.2
    grind
  have hcd : vR C * vR D ≤ 9 / 4 := by
    have i1 := le_mul nd hC.2
    have i2 := hD.2
    grind
  obtain ⟨r1, M, m1, m2⟩ := prod_size s t hA hB
  obtain ⟨r2, N, n1, n2⟩ := prod_size p q hC hD
  obtain ⟨r, X, x1, x2, x3⟩ := sub_size r1 r2 m2 n2 (by grind)
  refine ⟨r, X, by rw [m1, n1, x1], x2, ?_⟩
  have h1 : (vR A * vR B + 1 / 5000 + (vR C * vR D + 1 / 5000)) * u53 ≤ 1 / 10000 := by
    have := le_mul (show (0 : Rat) ≤ u53 by rw [e3]; decide +kernel) (show vR A * vR B + 1 / 5000 + (vR C * vR D + 1 / 5000) ≤ 5 by grind)
    have k : (5 : Rat) * u53 ≤ 1 / 10000 := by rw [e3]; decide +kernel
    grind
  grind
theorem cs_two {a b c d : Rat} : (a * d + b * c) * (a * d + b * c) ≤ (a * a + b * b) * (d * d + c * c) := by
  have h : 0 ≤ (a * c - b * d) * (a * c - b * d) := by
    rcases (Rat.le_total : (0 : Rat) ≤ a * c - b * d ∨ a * c - b * d ≤ 0) with h | h
    · exact Rat.mul_nonneg h h
    · have := Rat.mul_nonneg (show 0 ≤ -(a * c - b * d) by grind) (show 0 ≤ -(a * c - b * d) by grind)
      grind
  grind
theorem cross_core {d1 d2 d3 e1 e2 e3 c1 c2 c3 : Rat} (hd1 : 0 ≤ d1) (hd2 : 0 ≤ d2) (hd3 : 0 ≤ d3) (he1 : 0 ≤ e1) (he2 : 0 ≤ e2) (he3 : 0 ≤ e3) (hc1 : 0 ≤ c1) (hc2 : 0 ≤ c2) (hc3 : 0 ≤ c3)
    (hA : d1 * d1 + d2 * d2 + d3 * d3 ≤ 203 / 100) (hB : e1 * e1 + e2 * e2 + e3 * e3 ≤ 203 / 100)
    (k1 : c1 ≤ d2 * e3 + d3 * e2 + 1 / 1000) (k2 : c2 ≤ d3 * e1 + d1 * e3 + 1 / 1000) (k3 : c3 ≤ d1 * e2 + d2 * e1 + 1 / 1000) : c1 * c1 + c2 * c2 + c3 * c3 ≤ 42 / 5 := by
  have p1 := cs_two (a := d2) (b := d3) (c := e2) (d := e3)
  have p2 := cs_two (a := d3) (b := d1) (c := e3) (d := e1)
  have p3 := cs_two (a := d1) (b := d2) (c := e1) (d := e2)
  have n1 : 0 ≤ d2 * e3 + d3 * e2 := by have := Rat.mul_nonneg hd2 he3; have := Rat.mul_nonneg hd3 he2; grind
  have n2 : 0 ≤ d3 * e1 + d1 * e3 := by have := Rat.mul_nonneg hd3 he1; have := Rat.mul_nonneg hd1 he3; grind
  have n3 : 0 ≤ d1 * e2 + d2 * e1 := by have := Rat.mul_nonneg hd1 he2; have := Rat.mul_nonneg hd2 he1; grind
  have q1 := sq_le hc1 k1
  have q2 := sq_le hc2 k2
  have q3 := sq_le hc3 k3
  generalize d2 * e3 + d3 * e2 = x1 at *
  generalize d3 * e1 + d1 * e3 = x2 at *
  generalize d1 * e2 + d2 * e1 = x3 at *
  have s1 := Rat.mul_nonneg hd1 hd1
  have s2 := Rat.mul_nonneg hd2 hd2
  have s3 := Rat.mul_nonneg hd3 hd3
  have t1 := Rat.mul_nonneg he1 he1
  have t2 := Rat.mul_nonneg he2 he2
  have t3 := Rat.mul_nonneg he3 he3
  generalize d1 * d1 = a1 at *
  generalize d2 * d2 = a2 at *
  generalize d3 * d3 = a3 at *
  generalize e1 * e1 = b1 at *
  generalize e2 * e2 = b2 at *
  generalize e3 * e3 = b3 at *
  have ab : (a1 + a2 + a3) * (b1 + b2 + b3) ≤ 203 / 100 * (203 / 100) := by
    have i1 := le_mul (show 0 ≤ b1 + b2 + b3 by grind) hA
    have i2 := Rat.mul_le_mul_of_nonneg_left hB (show (0 : Rat) ≤ 203 / 100 by decide +kernel)
    grind
  have m12 := Rat.mul_nonneg s1 t2
  have m13 := Rat.mul_nonneg s1 t3
  have m21 := Rat.mul_nonneg s2 t1
  have m23 := Rat.mul_nonneg s2 t3
  have m31 := Rat.mul_nonneg s3 t1
  have m32 := Rat.mul_nonneg s3 t2
  have tot : x1 * x1 + x2 * x2 + x3 * x3 ≤ 2 * (203 / 100 * (203 / 100)) := by grind
  have cap : ∀ x : Rat, 0 ≤ x → x * x ≤ 2 * (203 / 100 * (203 / 100)) → x ≤ 3 := by
    intro x hx h
    refine Rat.not_lt.1 fun hlt => ?_
    have := sq_lt (show (0 : Rat) < 3 by decide +kernel) hlt
    grind
  have y1 := Rat.mul_nonneg n1 n1
  have y2 := Rat.mul_nonneg n2 n2
  have y3 := Rat.mul_nonneg n3 n3
  have u1 := cap x1 n1 (by grind)
  have u2 := cap x2 n2 (by grind)
  have u3 := cap x3 n3 (by grind)
  grind
theorem diag_size {n : Nat} {a b : DirZ} (hn : 1 ≤ n) (hn' : n ≤ 32) (ha : OnCube n a) (hb : OnCube n b) (h : 0 ≤ a.x * b.x + a.y * b.y + a.z * b.z) :
    ∃ r1 r2 r3 D1 D2 D3, minusF (unitF (vecW n a)) (unitF (vecW n b)) = ⟨cw r1 D1, cw r2 D2, cw r3 D3⟩ ∧ Sz D1 (3 / 2) ∧ Sz D2 (3 / 2) ∧ Sz D3 (3 / 2) ∧ vR D1 * vR D1 + vR D2 * vR D2 + vR D3 * vR D3 ≤ 203 / 100 := by
  obtain ⟨L, A, B, C, l0, l1, l2, e1, ⟨a1, a2⟩, ⟨b1, b2⟩, ⟨c1, c2⟩⟩ := unit_dir hn hn' ha
  obtain ⟨L', A', B', C', l0', l1', l2', e1', ⟨a1', a2'⟩, ⟨b1', b2'⟩, ⟨c1', c2'⟩⟩ := unit_dir hn hn' hb
  have S := unit_sq hn hn' ha e1 a1 b1 c1
  have S' := unit_sq hn hn' hb e1' a1' b1' c1'
  rw [e1, e1']
  obtain ⟨r1, D1, d1, k1⟩ := sub_near (decide (a.x < 0)) (decide (b.x < 0)) a1 a1'
  obtain ⟨r2, D2, d2, k2⟩ := sub_near (decide (a.y < 0)) (decide (b.y < 0)) b1 b1'
  obtain ⟨r3, D3, d3, k3⟩ := sub_near (decide (a.z < 0)) (decide (b.z < 0)) c1 c1'
  obtain ⟨m1, z1⟩ := sub_comp (r := r1) k1
  obtain ⟨m2, z2⟩ := sub_comp (r := r2) k2
  obtain ⟨m3, z3⟩ := sub_comp (r := r3) k3
  have hnn : (1 : Rat) ≤ (n : Rat) := by exact_mod_cast hn
  have hdot : (0 : Rat) ≤ (a.x : Rat) * b.x + (a.y : Rat) * b.y + (a.z : Rat) * b.z := by exact_mod_cast h
  have dot := dot_core hnn l1 l1' a2 b2 c2 a2' b2' c2' (abs32 hn' ha.1) (abs32 hn' ha.2.1) (abs32 hn' ha.2.2.1) (abs32 hn' hb.1) (abs32 hn' hb.2.1) (abs32 hn' hb.2.2.1) hdot
  have q1 := sub_sq k1
  have q2 := sub_sq k2
  have q3 := sub_sq k3
  have sA := sg_sq (decide (a.x < 0)) (vR A)
  have sB := sg_sq (decide (a.y < 0)) (vR B)
  have sC := sg_sq (decide (a.z < 0)) (vR C)
  have sA' := sg_sq (decide (b.x < 0)) (vR A')
  have sB' := sg_sq (decide (b.y < 0)) (vR B')
  have sC' := sg_sq (decide (b.z < 0)) (vR C')
  generalize sg (decide (a.x < 0)) (vR A) = x1 at *
  generalize sg (decide (a.y < 0)) (vR B) = x2 at *
  generalize sg (decide (a.z < 0)) (vR C) = x3 at *
  generalize sg (decide (b.x < 0)) (vR A') = y1 at *
  generalize sg (decide (b.y < 0)) (vR B') = y2 at *
  generalize sg (decide (b.z < 0)) (vR C') = y3 at *
  have tot : (x1 - y1) * (x1 - y1) + (x2 - y2) * (x2 - y2) + (x3 - y3) * (x3 - y3) ≤ 2023 / 1000 := by
    have e : (x1 - y1) * (x1 - y1) + (x2 - y2) * (x2 - y2) + (x3 - y3) * (x3 - y3) = (x1 * x1 + x2 * x2 + x3 * x3) + (y1 * y1 + y2 * y2 + y3 * y3) - 2 * (x1 * y1 + x2 * y2 + x3 * y3) := by grind
    rw [e, sA, sB, sC, sA', sB', sC']
    grind
  have e3 := u53_is
  have v0 : 0 ≤ (1 + u53) * (1 + u53) := by rw [e3]; decide +kernel
  have fin : (2023 / 1000 : Rat) * ((1 + u53) * (1 + u53)) ≤ 203 / 100 := by rw [e3]; decide +kernel
  have DD : vR D1 * vR D1 + vR D2 * vR D2 + vR D3 * vR D3 ≤ 203 / 100 := by
    have i := le_mul v0 tot
    grind
  have n1 := vR_nonneg m1.1
  have n2 := vR_nonneg m2.1
  have n3 := vR_nonneg m3.1
  have s1 := Rat.mul_nonneg n1 n1
  have s2 := Rat.mul_nonneg n2 n2
  have s3 := Rat.mul_nonneg n3 n3
  have cap : ∀ x : Rat, x * x ≤ 203 / 100 → x ≤ 3 / 2 := by
    intro x h
    refine Rat.not_lt.1 fun hlt => ?_
    have := sq_lt (show (0 : Rat) < 3 / 2 by decide +kernel) hlt
    grind
  refine ⟨r1, r2, r3, D1, D2, D3, ?_, ⟨m1.1, cap _ (by grind)⟩, ⟨m2.1, cap _ (by grind)⟩, ⟨m3.1, cap _ (by grind)⟩, DD⟩
  unfold minusF
  simp only [d1, d2, d3]
theorem cross_size {r1 r2 r3 q1 q2 q3 : Bool} {D1 D2 D3 E1 E2 E3 : Nat} (h1 : Sz D1 (3 / 2)) (h2 : Sz D2 (3 / 2)) (h3 : Sz D3 (3 / 2)) (k1 : Sz E1 (3 / 2)) (k2 : Sz E2 (3 / 2)) (k3 : Sz E3 (3 / 2))
    (hD : vR D1 * vR D1 + vR D2 * vR D2 + vR D3 * vR D3 ≤ 203 / 100) (hE : vR E1 * vR E1 + vR E2 * vR E2 + vR E3 * vR E3 ≤ 203 / 100) :
    ∃ N, lenF (crossF ⟨cw r1 D1, cw r2 D2, cw r3 D3⟩ ⟨cw q1 E1, cw q2 E2, cw q3 E3⟩) = N ∧ Sz N 3 := by
  obtain ⟨s1, X, e1, x1, x2⟩ := part_size r2 q3 r3 q2 h2 k3 h3 k2
  obtain ⟨s2, Y, e2, y1, y2⟩ := part_size r3 q1 r1 q3 h3 k1 h1 k3
  obtain ⟨s3, Z, e3, z1, z2⟩ := part_size r1 q2 r2 q1 h1 k2 h2 k1
  have hc := cross_core (vR_nonneg h1.1) (vR_nonneg h2.1) (vR_nonneg h3.1) (vR_nonneg k1.1) (vR_nonneg k2.1) (vR_nonneg k3.1) (vR_nonneg x1) (vR_nonneg y1) (vR_nonneg z1) hD hE x2 y2 z2
  have cap : ∀ x : Rat, x * x ≤ 42 / 5 → x ≤ 3 := by
    intro x h
    refine Rat.not_lt.1 fun hlt => ?_
    have := sq_lt (show (0 : Rat) < 3 by decide +kernel) hlt
    grind
  have n1 := vR_nonneg x1
  have n2 := vR_nonneg y1
  have n3 := vR_nonneg z1
  have w1 := Rat.mul_nonneg n1 n1
  have w2 := Rat.mul_nonneg n2 n2
  have w3 := Rat.mul_nonneg n3 n3
  obtain ⟨N, hN, b⟩ := len_size s1 s2 s3 ⟨x1, cap _ (by grind)⟩ ⟨y1, cap _ (by grind)⟩ ⟨z1, cap _ (by grind)⟩ hc
  refine ⟨N, ?_, b⟩
  unfold crossF
  simp only [e1, e2, e3]
  exact hN
theorem dot_diag {n f : Nat} (hn : 2 ≤ n) (k l k' l' : Int) (hk : k' = k + 2 ∨ k = k' + 2) (hl : l' = l + 2 ∨ l = l' + 2) : 0 ≤ dotZ (dirF n f k l) (dirF n f k' l') := by
  rw [dot_face]
  have a : ∀ x y : Int, (y = x + 2 ∨ x = y + 2) → -1 ≤ x * y := by
    intro x y h
    rcases h with rfl | rfl
    · have := isq (x + 1); grind
    · have := isq (y + 1); grind
  have h1 := a k k' hk
  have h2 := a l l' hl
  have h3 : (4 : Int) ≤ n * n := by
    have := Int.mul_le_mul (show (2 : Int) ≤ n by omega) (show (2 : Int) ≤ n by omega) (by decide) (by omega)
    exact this
  omega
theorem areaX_size {n f i j : Nat} (hn : 2 ≤ n) (hn' : n ≤ 32) (hi : i < n) (hj : j < n) : Sz (areaX (cornerF n f i j) (cornerF n f (i + 1) j) (cornerF n f (i + 1) (j + 1)) (cornerF n f i (j + 1))) 3 := by
  have h1 : 1 ≤ n := by omega
  rw [corner_dir h1 hn' (show i ≤ n by omega) (show j ≤ n by omega), corner_dir h1 hn' (show i + 1 ≤ n by omega) (show j ≤ n by omega), corner_dir h1 hn' (show i + 1 ≤ n by omega) (show j + 1 ≤ n by omega), corner_dir h1 hn' (show i ≤ n by omega) (show j + 1 ≤ n by omega)]
  obtain ⟨r1, r2, r3, D1, D2, D3, e1, a1, a2, a3, a4⟩ := diag_size h1 hn' (onCube f (k := 2 * (i + 1 : Nat) - n) (l := 2 * (j + 1 : Nat) - n) (by omega) (by omega)) (onCube f (k := 2 * (i : Nat) - n) (l := 2 * (j : Nat) - n) (by omega) (by omega)) (dot_diag hn _ _ _ _ (by omega) (by omega))
  obtain ⟨q1, q2, q3, E1, E2, E3, e2, b1, b2, b3, b4⟩ := diag_size h1 hn' (onCube f (k := 2 * (i : Nat) - n) (l := 2 * (j + 1 : Nat) - n) (by omega) (by omega)) (onCube f (k := 2 * (i + 1 : Nat) - n) (l := 2 * (j : Nat) - n) (by omega) (by omega)) (dot_diag hn _ _ _ _ (by omega) (by omega))
  obtain ⟨N, hN, hS⟩ := cross_size a1 a2 a3 b1 b2 b3 a4 b4 (r1 := r1) (r2 := r2) (r3 := r3) (q1 := q1) (q2 := q2) (q3 := q3)
  unfold areaX
  rw [e1, e2, hN]
  exact hS
theorem cut_le (m k : Nat) : Toward.down.cut false m k * 2 ^ k ≤ m := by
  unfold Toward.cut
  simp only [Bool.false_and, Bool.toNat_false, Nat.add_zero, Nat.shiftLeft_eq, Nat.one_mul]
  rcases Nat.le_total k (m.log2 + 2) with h | h
  · rw [Nat.min_eq_left h]
    exact Nat.div_mul_le_self _ _
  · rw [Nat.min_eq_right h]
    have h1 : m < 2 ^ (m.log2 + 2) := by
      have := Nat.lt_log2_self (n := m)
      exact Nat.lt_of_lt_of_le this (Nat.pow_le_pow_right (by decide) (by omega))
    rw [Nat.div_eq_of_lt h1, Nat.zero_mul]
    exact Nat.zero_le _
/-- What is rounded down is not above. -/
theorem floor_le {R : Nat} (hR : R < infR) (h : vR R ≤ 4294967296) : ∃ N : Nat, fToI (some (floorB R)) .u64 = some (N : Int) ∧ (N : Rat) ≤ vR R := by
  have hi := infR_eq
  obtain ⟨m, i, d1, v1, _⟩ := dat_num hR false
  have hr : f64.read R = .number false m i := by
    have := read_wd false (show R < 2 ^ 63 by omega)
    rw [wd_false, d1] at this
    exact this
  have hf : floorB R = f64.nearest false (Toward.down.cut false (m <<< i.toNat) (-i).toNat) 0 := by
    unfold floorB
    rw [hr, Ieee.Datum.integral, write_num]
  have hN : ((Toward.down.cut false (m <<< i.toNat) (-i).toNat : Nat) : Rat) ≤ vR R := by
    rw [← v1]
    have h1 := cut_le (m <<< i.toNat) (-i).toNat
    generalize Toward.down.cut false (m <<< i.toNat) (-i).toNat = N at *
    have h2 : mg (N * 2 ^ (-i).toNat) i ≤ mg (m <<< i.toNat) i := mg_le h1 i
    rcases Int.le_total 0 i with h3 | h3
    · rw [show (-i).toNat = 0 by omega, Nat.pow_zero, Nat.mul_one, Nat.shiftLeft_eq] at h1
      have h4 : mg (m * 2 ^ i.toNat) 0 = mg m i := by rw [mg_nat]; congr 1; omega
      rw [← h4]
      have h5 := mg_le h1 0
      have h6 : mg N 0 = (N : Rat) := by unfold mg; rw [two_0]; grind
      grind
    · rw [show i.toNat = 0 by omega, Nat.shiftLeft_zero, mg_nat, show i + ((-i).toNat : Int) = 0 by omega] at h2
      have h6 : mg N 0 = (N : Rat) := by unfold mg; rw [two_0]; grind
      grind
  refine ⟨_, ?_, hN⟩
  rw [hf]
  refine toI_small ?_
  generalize Toward.down.cut false (m <<< i.toNat) (-i).toNat = N at *
  have h1 : (N : Rat) ≤ ((4294967296 : Nat) : Rat) := Rat.le_trans hN h
  have h2 : N ≤ 4294967296 := by exact_mod_cast h1
  omega
theorem nearR_le (b fl : Nat) {N : Nat} (h : N ≤ 1717986919) : 0 ≤ nearR b fl N ∧ nearR b fl N ≤ 2147483648 := by
  have e : IntKind.u64.wrap ((N : Int) + 1) = N + 1 := wrap_u (by omega) (by omega)
  unfold nearR
  rw [e]
  split
  · omega
  · split
    · split <;> omega
    · omega
theorem round_le {R : Nat} (hR : R < infR) (h : vR R ≤ 1717986919) : roundT (some R) ≤ 2147483648 := by
  have hi := infR_eq
  obtain ⟨N, h1, h2⟩ := floor_le hR (by grind)
  have hN : N ≤ 1717986919 := by
    have h3 : (N : Rat) ≤ ((1717986919 : Nat) : Rat) := Rat.le_trans h2 h
    exact_mod_cast h3
  have ha : absB R = R := by
    rw [(absB_lt R (by omega)).2]
    exact Nat.mod_eq_of_lt (by omega)
  obtain ⟨k1, k2⟩ := nearR_le R (floorB R) hN
  have w1 : IntKind.i64.wrap (nearR R (floorB R) N) = nearR R (floorB R) N := wrap_id (by omega) (by omega)
  have w2 : IntKind.i64.wrap (0 - nearR R (floorB R) N) = 0 - nearR R (floorB R) N := wrap_id (by omega) (by omega)
  unfold roundT
  simp only
  cases hr : roundO R with
  | none => simp only; split <;> omega
  | some v =>
    unfold roundO at hr
    rw [ha, h1] at hr
    simp only
    split at hr
    · rename_i n _ _ hn
      injection hn with hn
      subst hn
      injection hr with hr
      subst hr
      rw [w1, w2]
      split <;> omega
    · exact nomatch hr
theorem vR_half : vR halfB = 1 / 2 := by
  have e : vR halfB = mg (2 ^ 52) (-53) := by
    unfold vR
    rw [if_neg (by decide)]
    have e1 : 2 ^ 52 + halfB % 2 ^ 52 = 2 ^ 52 := by decide
    have e2 : halfB / 2 ^ 52 - 1 = 1021 := by decide
    rw [e1, e2]
    congr 1
  have h := two_add (-53) 53
  rw [show (-53 : Int) + 53 = 0 by decide, two_0, show (2 : Rat) ^ (53 : Int) = 9007199254740992 from (two_nat 53).trans rfl] at h
  rw [e]
  unfold mg
  rw [show ((2 ^ 52 : Nat) : Rat) = 4503599627370496 from rfl]
  grind
theorem vR_unit : vR unitB = 1073741824 := by
  have e : vR unitB = mg (2 ^ 52) (-22) := by
    unfold vR
    rw [if_neg (by decide)]
    have e1 : 2 ^ 52 + unitB % 2 ^ 52 = 2 ^ 52 := by decide
    have e2 : unitB / 2 ^ 52 - 1 = 1052 := by decide
    rw [e1, e2]
    congr 1
  have h := two_add (-22) 22
  rw [show (-22 : Int) + 22 = 0 by decide, two_0, show (2 : Rat) ^ (22 : Int) = 4194304 from (two_nat 22).trans rfl] at h
  rw [e]
  unfold mg
  rw [show ((2 ^ 52 : Nat) : Rat) = 4503599627370496 from rfl]
  grind
theorem area_one : ∀ f, f < 6 → areaT 1 f 0 0 ≤ 2147483648 := by decide +kernel
theorem areaT_le {n f i j : Nat} (hn : 1 ≤ n) (hn' : n ≤ 32) (hf : f < 6) (hi : i < n) (hj : j < n) : areaT n f i j ≤ 2147483648 := by
  by_cases h1 : n = 1
  · subst h1
    obtain rfl : i = 0 := by omega
    obtain rfl : j = 0 := by omega
    exact area_one f hf
  · have hS := areaX_size (f := f) (show 2 ≤ n by omega) hn' hi hj
    have e3 := u53_is
    have t0 : 0 < tau := two_pos _
    have t1 := tau_small
    have b0 := two_le (show (40 : Int) ≤ 1000 by decide)
    rw [show (2 : Rat) ^ (40 : Int) = 1099511627776 from (two_nat 40).trans rfl] at b0
    unfold areaT areaY
    simp only
    generalize areaX (cornerF n f i j) (cornerF n f (i + 1) j) (cornerF n f (i + 1) (j + 1)) (cornerF n f i (j + 1)) = X at *
    obtain ⟨A, a1, a2, a3⟩ := mul_size false false hS (Q := halfB) (y := 1 / 2) ⟨by decide, by rw [vR_half]; exact Rat.le_refl⟩ (by grind)
    have a4 : vR A ≤ 151 / 100 := by
      have k : (3 * (1 / 2) : Rat) * (1 + u53) ≤ 1505 / 1000 := by rw [e3]; decide +kernel
      grind
    obtain ⟨B, b1, b2, b3⟩ := mul_size false false (R := A) (x := 151 / 100) ⟨a2, a4⟩ (Q := unitB) (y := 1073741824) ⟨by decide, by rw [vR_unit]; exact Rat.le_refl⟩ (by grind)
    have b4 : vR B ≤ 1717986919 := by
      have k : (151 / 100 * 1073741824 : Rat) * (1 + u53) ≤ 1717986918 := by rw [e3]; decide +kernel
      grind
    rw [wd_false, wd_false, Bool.xor_self, wd_false] at a1 b1
    rw [a1, b1]
    have := round_le b2 b4
    split <;> omega
end Go.Proofs.YtbfdbpmdibjanaaDoor
