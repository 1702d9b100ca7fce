import Derived.Test.YtgoljofmbidkfaaGreatDoorR7
import Derived.Test.YtgoljofmbidkfaaGreatDoorRf
import Derived.Test.YtgoljofmbidkfaaGreatDoorR5
import Derived.Test.YtgoljofmbidkfaaGreatDoorRn
/- The reference's whole numbers as floats, roundings. No condition. -/
namespace Go.Proofs.YtgoljofmbidkfaaGreatDoor
open Go Go.Eng Ieee
set_option maxRecDepth 100000
set_option linter.unusedSimpArgs false
set_option linter.unusedVariables false

theorem wrap_u1B (x : Nat) (h : x < 9223372036854775808) : IntKind.u64.wrap ((x : Int) + 1) = ((x + 1 : Nat) : Int) := by
  rw [wrap_u (by omega) (by omega)]; rfl
theorem r_eqB (K s : Nat) (hK : K < 18446744073709551616) (h : s < 64) : rI K s = ((K % 2 ^ s : Nat) : Int) := by
  unfold rI
  rw [sh_id s h, q_eq K s h, show (2 : Int) ^ s = ((2 ^ s : Nat) : Int) by push_cast; rfl, ← Int.natCast_mul]
  have h1 := Nat.div_mul_le_self K (2 ^ s)
  have h2 := Nat.div_add_mod' K (2 ^ s)
  generalize K / 2 ^ s * 2 ^ s = x at *
  generalize K % 2 ^ s = y at *
  rw [wrap_u (n := (x : Int)) (by omega) (by omega), wrap_u (by omega) (by omega)]
  omega
theorem nearB (K s : Nat) (hK : K < 18446744073709551616) (h1 : 1 ≤ s) (h : s < 64) (m : List Blk) : COk Tryz.prog 3 156 [U K, I s] m (U (nearN K s : Nat)) m := by
  · have e := nearR_ok K s _ _ (down_near K s (decide_eq_false (by omega))) m
    rw [q_eq K s h, r_eqB K s hK h, h_eq s h1 h] at e
    have hp := pow_pred h1
    have hq : K / 2 ^ s < 9223372036854775808 := by
      have h6 : 2 ^ 1 ≤ 2 ^ s := Nat.pow_le_pow_right (by decide) h1
      have h7 : K / 2 ^ s ≤ K / 2 ^ 1 := Nat.div_le_div_left h6 (by decide)
      omega
    have ho : ((K / 2 ^ s : Nat) : Int).tmod 2 = ((K / 2 ^ s % 2 : Nat) : Int) := rfl
    rw [ho, wrap_u1B _ hq] at e
    refine cast (congrArg (fun z => COk Tryz.prog 3 156 [U K, I s] m (U z) m) ?_) e
    unfold nearN
    have hpp : 0 < 2 ^ (s - 1) := Nat.pow_pos (by decide)
    rw [← hp]
    rw [← hp] at hq
    generalize K % (2 * 2 ^ (s - 1)) = y at *
    generalize K / (2 * 2 ^ (s - 1)) = x at *
    generalize 2 ^ (s - 1) = a at *
    clear e ho
    rcases Nat.lt_trichotomy y a with h5 | h5 | h5
    · rw [if_neg (c := 2 * a < 2 * y ∨ _) (by omega)]
      have e2 : decide (((y : Nat) : Int) < (a : Int)) = true := decide_eq_true (by omega)
      rw [e2]
      by_cases h0 : ((y : Int) == 0) = true
      · rw [if_pos h0]; rfl
      · rw [if_neg h0]; rfl
    · subst h5
      have e1 : ((y : Int) == 0) = false := by simpa using (show y ≠ 0 by omega)
      have e2 : decide (((y : Nat) : Int) < (y : Int)) = false := decide_eq_false (by omega)
      have e3 : (((y : Nat) : Int) == (y : Int)) = true := by simp
      rw [e1, e2, e3]
      simp only [Bool.false_eq_true, if_false, if_true]
      rw [if_neg (by decide), if_pos (by decide)]
      by_cases h6 : x % 2 = 1
      · rw [if_pos (show (((x % 2 : Nat) : Int) == 1) = true by rw [h6]; rfl), if_pos (show 2 * y < 2 * y ∨ True ∧ x % 2 = 1 from .inr ⟨trivial, h6⟩)]
      · rw [if_neg (show ¬ (((x % 2 : Nat) : Int) == 1) = true by rw [show x % 2 = 0 by omega]; decide), if_neg (show ¬ (2 * y < 2 * y ∨ True ∧ x % 2 = 1) by omega)]
    · have e1 : ((y : Int) == 0) = false := by simpa using (show y ≠ 0 by omega)
      have e2 : decide (((y : Nat) : Int) < (a : Int)) = false := decide_eq_false (by omega)
      have e3 : (((y : Nat) : Int) == (a : Int)) = false := beq_eq_false_iff_ne.2 (by omega)
      rw [e1, e2, e3]
      simp only [Bool.false_eq_true, if_false, if_true]
      rw [if_pos (by decide), if_pos (by omega)]
theorem half_down {m k : Nat} : m / 2 ^ k / 2 = m / 2 ^ (k + 1) := by rw [Nat.div_div_eq_div_mul, ← Nat.pow_succ]
theorem rlen_ok {z : Nat} (h0 : z ≠ 0) (hz : z < 18446744073709551616) (M : List Blk) : COk Tryz.prog 3 171 [U z] M (I ((z.log2 + 1 : Nat) : Int)) M := by
  have hlog : z.log2 < 64 := (Nat.log2_lt h0).2 (by omega)
  have hpos : ∀ k, k < z.log2 + 1 → 0 < z / 2 ^ k := fun k hk => Nat.div_pos (Nat.le_trans (Nat.pow_le_pow_right (by decide) (by omega)) (Nat.log2_self_le h0)) (Nat.two_pow_pos k)
  have hend : z / 2 ^ (z.log2 + 1) = 0 := Nat.div_eq_of_lt Nat.lt_log2_self
  have hle : ∀ k, z / 2 ^ k ≤ z := fun k => Nat.div_le_self _ _
  have hdiv : ∀ k, V.int .u64 (IntKind.u64.wrap (((z / 2 ^ k : Nat) : Int).tdiv 2)) = U ((z / 2 ^ (k + 1) : Nat) : Int) := fun k => by
    have h1 := hle (k + 1)
    rw [show ((z / 2 ^ k : Nat) : Int).tdiv 2 = ((z / 2 ^ k / 2 : Nat) : Int) from rfl, half_down]
    generalize z / 2 ^ (k + 1) = y at *
    rw [wrap_u (by omega) (by omega)]
  refine COk_quiet Tryz.f171 Tryz.func171 (by kernel_rfl) rfl ?_
  (conv => whnf); repeat ((first | refine br_d (by omega) ?_ | refine br_nd (by omega) ?_ | refine br_eq (by omega) ?_ | refine br_neq (by omega) ?_ | refine br_ne (by omega) ?_ | refine br_no (bo_eqn (by omega)) ?_ | refine Or.inl ?_ | refine okS_no (by kernel_rfl) ?_ | refine okS_yes (by kernel_rfl) ?_ | refine And_of (by (conv => whnf); (rw [getB_app0]); (conv => whnf)) ?_ | refine setB_app ?_ | refine setB_app0 ?_ | rw [getB_app] | rw [getB_app0] | refine addB_f13 ?_ | refine addB_f12 ?_ | refine addB_f11 ?_ | refine addB_f10 ?_ | refine addB_f9 ?_ | refine addB_f8 ?_ | refine addB_f7 ?_ | refine addB_f6 ?_ | refine addB_f5 ?_ | refine addB_f4 ?_ | refine addB_f3 ?_ | refine addB_f2 ?_ | refine addB_f1 ?_ | refine addB_f0 ?_); conv => whnf)
  refine loop_to (fun k => [U (z / 2 ^ k : Nat), .any, .any, I k, .any, .any, .any, .any, .any, .any, .any]) (fun _ => M) 0 (z.log2 + 1) (Nat.zero_le _) ?_ ?_ ?_
  · refine Fg.all ?_ (Nat.le_refl _)
    conv => whnf
    exact ⟨by rw [Nat.pow_zero, Nat.div_one], rfl, rfl⟩
  · intro k _ hk
    conv => whnf
    refine br_d (show ((z / 2 ^ k : Nat) : Int) > 0 by exact_mod_cast hpos k hk) ?_
    (conv => whnf); repeat ((first | refine br_d (by omega) ?_ | refine br_nd (by omega) ?_ | refine br_eq (by omega) ?_ | refine br_neq (by omega) ?_ | refine br_ne (by omega) ?_ | refine br_no (bo_eqn (by omega)) ?_ | refine Or.inl ?_ | refine okS_no (by kernel_rfl) ?_ | refine okS_yes (by kernel_rfl) ?_ | refine And_of (by (conv => whnf); (rw [getB_app0]); (conv => whnf)) ?_ | refine setB_app ?_ | refine setB_app0 ?_ | rw [getB_app] | rw [getB_app0] | refine addB_f13 ?_ | refine addB_f12 ?_ | refine addB_f11 ?_ | refine addB_f10 ?_ | refine addB_f9 ?_ | refine addB_f8 ?_ | refine addB_f7 ?_ | refine addB_f6 ?_ | refine addB_f5 ?_ | refine addB_f4 ?_ | refine addB_f3 ?_ | refine addB_f2 ?_ | refine addB_f1 ?_ | refine addB_f0 ?_); conv => whnf)
    refine Fg.all ?_ (Nat.le_refl _)
    conv => whnf
    exact ⟨hdiv k, wrapKL (by omega), rfl⟩
  · rw [hend]
    (conv => whnf); repeat ((first | refine br_d (by omega) ?_ | refine br_nd (by omega) ?_ | refine br_eq (by omega) ?_ | refine br_neq (by omega) ?_ | refine br_ne (by omega) ?_ | refine br_no (bo_eqn (by omega)) ?_ | refine Or.inl ?_ | refine okS_no (by kernel_rfl) ?_ | refine okS_yes (by kernel_rfl) ?_ | refine And_of (by (conv => whnf); (rw [getB_app0]); (conv => whnf)) ?_ | refine setB_app ?_ | refine setB_app0 ?_ | rw [getB_app] | rw [getB_app0] | refine addB_f13 ?_ | refine addB_f12 ?_ | refine addB_f11 ?_ | refine addB_f10 ?_ | refine addB_f9 ?_ | refine addB_f8 ?_ | refine addB_f7 ?_ | refine addB_f6 ?_ | refine addB_f5 ?_ | refine addB_f4 ?_ | refine addB_f3 ?_ | refine addB_f2 ?_ | refine addB_f1 ?_ | refine addB_f0 ?_); conv => whnf)
    exact ⟨rfl, [], by simp⟩
theorem rsmall_0 (m : List Blk) : COk Tryz.prog 3 158 [U 0, I 0, I 52, I (-1074), U 9218868437227405312] m (U 0) m := by
  refine COk_quiet Tryz.f158 Tryz.func158 (by kernel_rfl) rfl ?_
  (conv => whnf); repeat ((first | refine br_d (by omega) ?_ | refine br_nd (by omega) ?_ | refine br_eq (by omega) ?_ | refine br_neq (by omega) ?_ | refine br_ne (by omega) ?_ | refine br_no (bo_eqn (by omega)) ?_ | refine Or.inl ?_ | refine okS_no (by kernel_rfl) ?_ | refine okS_yes (by kernel_rfl) ?_ | refine And_of (by (conv => whnf); (rw [getB_app0]); (conv => whnf)) ?_ | refine setB_app ?_ | refine setB_app0 ?_ | rw [getB_app] | rw [getB_app0] | refine addB_f13 ?_ | refine addB_f12 ?_ | refine addB_f11 ?_ | refine addB_f10 ?_ | refine addB_f9 ?_ | refine addB_f8 ?_ | refine addB_f7 ?_ | refine addB_f6 ?_ | refine addB_f5 ?_ | refine addB_f4 ?_ | refine addB_f3 ?_ | refine addB_f2 ?_ | refine addB_f1 ?_ | refine addB_f0 ?_); conv => whnf)
  exact ⟨rfl, [], by simp⟩
set_option maxHeartbeats 0 in
theorem rsmall_ok {z : Nat} (h0 : z ≠ 0) (hz : z < 18446744073709551616) (m : List Blk) : COk Tryz.prog 3 158 [U z, I 0, I 52, I (-1074), U 9218868437227405312] m (U (smallW z : Nat)) m := by
  have hl := rlen_ok h0 hz
  have hlog : z.log2 < 64 := (Nat.log2_lt h0).2 (by omega)
  refine COk_quiet Tryz.f158 Tryz.func158 (by kernel_rfl) rfl ?_
  (conv => whnf); repeat ((first | refine br_no (beq_eq_false_iff_ne.2 (by omega)) ?_ | refine ⟨_, _, hl _, ?_⟩); conv => whnf)
  have e : IntKind.i64.wrap (IntKind.i64.wrap (((z.log2 + 1 : Nat) : Int) + 0) - IntKind.i64.wrap (52 + 1)) = (z.log2 : Int) - 52 := by
    simp (disch := omega) only [wrap_id]; omega
  rw [e]
  have e2 : IntKind.i64.wrap ((z.log2 : Int) - 52 - -1074) = ((1022 + z.log2 : Nat) : Int) := by
    rw [wrap_id (by omega) (by omega)]; omega
  have hes := (small_is z hz).2 h0
  have eA : IntKind.u64.wrap (IntKind.u64.wrap ((1022 + z.log2 : Nat) : Int) * 2 ^ min (IntKind.u64.wrap 52).toNat IntKind.u64.bits) = (((1022 + z.log2) * 4503599627370496 : Nat) : Int) := by
    rw [show (2 : Int) ^ min (IntKind.u64.wrap 52).toNat IntKind.u64.bits = 4503599627370496 by decide, wrap_u (n := ((1022 + z.log2 : Nat) : Int)) (by omega) (by omega), wrap_u (by omega) (by omega)]
    omega
  rcases Nat.lt_trichotomy z.log2 52 with hL | hL | hL
  · have eS : smallW z = (1022 + z.log2) * 4503599627370496 + z * 2 ^ (52 - z.log2) := by
      unfold smallW; rw [if_neg h0, if_pos hL]
    have hlt : z < 2 ^ (z.log2 + 1) := Nat.lt_log2_self
    have hq : z * 2 ^ (52 - z.log2) < 9007199254740992 := by
      have h1 := Nat.mul_lt_mul_of_pos_right hlt (Nat.two_pow_pos (52 - z.log2))
      rw [← Nat.pow_add, show z.log2 + 1 + (52 - z.log2) = 53 by omega] at h1
      exact h1
    have eB : IntKind.u64.wrap ((z : Int) * 2 ^ min (IntKind.u64.wrap (IntKind.i64.wrap (0 - ((z.log2 : Int) - 52)))).toNat IntKind.u64.bits) = ((z * 2 ^ (52 - z.log2) : Nat) : Int) := by
      rw [wrap_id (n := 0 - ((z.log2 : Int) - 52)) (by omega) (by omega), show (0 : Int) - ((z.log2 : Int) - 52) = ((52 - z.log2 : Nat) : Int) by omega, sh_id _ (by omega), show (2 : Int) ^ (52 - z.log2) = ((2 ^ (52 - z.log2) : Nat) : Int) by push_cast; rfl, ← Int.natCast_mul]
      generalize z * 2 ^ (52 - z.log2) = y at *
      exact wrap_u (by omega) (by omega)
    have eX : IntKind.u64.wrap ((((1022 + z.log2) * 4503599627370496 : Nat) : Int) + ((z * 2 ^ (52 - z.log2) : Nat) : Int)) = ((smallW z : Nat) : Int) := by
      rw [eS] at hes ⊢
      generalize z * 2 ^ (52 - z.log2) = y at *
      rw [wrap_u (by omega) (by omega)]; omega
    (conv => whnf); repeat ((first | refine br_yes (u64_nn _) ?_ | refine br_d (by omega) ?_ | refine br_nd (by omega) ?_); conv => whnf)
    rw [e2]
    (conv => whnf); repeat ((first | refine br_yes (u64_nn _) ?_ | refine br_d (by omega) ?_ | refine br_nd (by omega) ?_ | refine br_eq (by omega) ?_ | refine br_neq (by omega) ?_ | refine br_ne (by omega) ?_ | refine br_no (bo_eqn (by omega)) ?_ | refine Or.inl ?_ | refine okS_no (by kernel_rfl) ?_ | refine okS_yes (by kernel_rfl) ?_ | refine And_of (by (conv => whnf); (rw [getB_app0]); (conv => whnf)) ?_ | refine setB_app ?_ | refine setB_app0 ?_ | rw [getB_app] | rw [getB_app0] | refine addB_f13 ?_ | refine addB_f12 ?_ | refine addB_f11 ?_ | refine addB_f10 ?_ | refine addB_f9 ?_ | refine addB_f8 ?_ | refine addB_f7 ?_ | refine addB_f6 ?_ | refine addB_f5 ?_ | refine addB_f4 ?_ | refine addB_f3 ?_ | refine addB_f2 ?_ | refine addB_f1 ?_ | refine addB_f0 ?_); conv => whnf)
    rw [eA, eB, eX]
    refine br_nd (by omega) ?_
    (conv => whnf); repeat ((first | refine br_d (by omega) ?_ | refine br_nd (by omega) ?_ | refine br_eq (by omega) ?_ | refine br_neq (by omega) ?_ | refine br_ne (by omega) ?_ | refine br_no (bo_eqn (by omega)) ?_ | refine Or.inl ?_ | refine okS_no (by kernel_rfl) ?_ | refine okS_yes (by kernel_rfl) ?_ | refine And_of (by (conv => whnf); (rw [getB_app0]); (conv => whnf)) ?_ | refine setB_app ?_ | refine setB_app0 ?_ | rw [getB_app] | rw [getB_app0] | refine addB_f13 ?_ | refine addB_f12 ?_ | refine addB_f11 ?_ | refine addB_f10 ?_ | refine addB_f9 ?_ | refine addB_f8 ?_ | refine addB_f7 ?_ | refine addB_f6 ?_ | refine addB_f5 ?_ | refine addB_f4 ?_ | refine addB_f3 ?_ | refine addB_f2 ?_ | refine addB_f1 ?_ | refine addB_f0 ?_); conv => whnf)
    exact ⟨rfl, [], by simp⟩
  · have eS : smallW z = 1074 * 4503599627370496 + z := by
      unfold smallW; rw [if_neg h0, if_neg (by omega), if_pos hL]
    have eX : IntKind.u64.wrap ((((1022 + z.log2) * 4503599627370496 : Nat) : Int) + (z : Int)) = ((smallW z : Nat) : Int) := by
      rw [eS] at hes ⊢
      rw [wrap_u (by omega) (by omega)]; omega
    (conv => whnf); repeat (refine br_nd (by omega) ?_; conv => whnf)
    rw [e2]
    (conv => whnf); repeat ((first | refine br_yes (u64_nn _) ?_ | refine br_d (by omega) ?_ | refine br_nd (by omega) ?_ | refine br_eq (by omega) ?_ | refine br_neq (by omega) ?_ | refine br_ne (by omega) ?_ | refine br_no (bo_eqn (by omega)) ?_ | refine Or.inl ?_ | refine okS_no (by kernel_rfl) ?_ | refine okS_yes (by kernel_rfl) ?_ | refine And_of (by (conv => whnf); (rw [getB_app0]); (conv => whnf)) ?_ | refine setB_app ?_ | refine setB_app0 ?_ | rw [getB_app] | rw [getB_app0] | refine addB_f13 ?_ | refine addB_f12 ?_ | refine addB_f11 ?_ | refine addB_f10 ?_ | refine addB_f9 ?_ | refine addB_f8 ?_ | refine addB_f7 ?_ | refine addB_f6 ?_ | refine addB_f5 ?_ | refine addB_f4 ?_ | refine addB_f3 ?_ | refine addB_f2 ?_ | refine addB_f1 ?_ | refine addB_f0 ?_); conv => whnf)
    rw [eA, eX]
    refine br_nd (by omega) ?_
    (conv => whnf); repeat ((first | refine br_d (by omega) ?_ | refine br_nd (by omega) ?_ | refine br_eq (by omega) ?_ | refine br_neq (by omega) ?_ | refine br_ne (by omega) ?_ | refine br_no (bo_eqn (by omega)) ?_ | refine Or.inl ?_ | refine okS_no (by kernel_rfl) ?_ | refine okS_yes (by kernel_rfl) ?_ | refine And_of (by (conv => whnf); (rw [getB_app0]); (conv => whnf)) ?_ | refine setB_app ?_ | refine setB_app0 ?_ | rw [getB_app] | rw [getB_app0] | refine addB_f13 ?_ | refine addB_f12 ?_ | refine addB_f11 ?_ | refine addB_f10 ?_ | refine addB_f9 ?_ | refine addB_f8 ?_ | refine addB_f7 ?_ | refine addB_f6 ?_ | refine addB_f5 ?_ | refine addB_f4 ?_ | refine addB_f3 ?_ | refine addB_f2 ?_ | refine addB_f1 ?_ | refine addB_f0 ?_); conv => whnf)
    exact ⟨rfl, [], by simp⟩
  · have eS : smallW z = (1022 + z.log2) * 4503599627370496 + nearN z (z.log2 - 52) := by
      unfold smallW; rw [if_neg h0, if_neg (by omega), if_neg (by omega)]
    have hn := nearB z (z.log2 - 52) hz (by omega) (by omega)
    have e4 : IntKind.i64.wrap ((z.log2 : Int) - 52 - 0) = ((z.log2 - 52 : Nat) : Int) := by rw [wrap_id (by omega) (by omega)]; omega
    rw [← e4] at hn
    have eX : IntKind.u64.wrap ((((1022 + z.log2) * 4503599627370496 : Nat) : Int) + ((nearN z (z.log2 - 52) : Nat) : Int)) = ((smallW z : Nat) : Int) := by
      rw [eS] at hes ⊢
      generalize nearN z (z.log2 - 52) = y at *
      rw [wrap_u (by omega) (by omega)]; omega
    (conv => whnf); repeat ((first | refine ⟨_, _, hn _, ?_⟩ | refine br_d (by omega) ?_ | refine br_nd (by omega) ?_); conv => whnf)
    rw [e2]
    (conv => whnf); repeat ((first | refine br_yes (u64_nn _) ?_ | refine br_d (by omega) ?_ | refine br_nd (by omega) ?_ | refine br_eq (by omega) ?_ | refine br_neq (by omega) ?_ | refine br_ne (by omega) ?_ | refine br_no (bo_eqn (by omega)) ?_ | refine Or.inl ?_ | refine okS_no (by kernel_rfl) ?_ | refine okS_yes (by kernel_rfl) ?_ | refine And_of (by (conv => whnf); (rw [getB_app0]); (conv => whnf)) ?_ | refine setB_app ?_ | refine setB_app0 ?_ | rw [getB_app] | rw [getB_app0] | refine addB_f13 ?_ | refine addB_f12 ?_ | refine addB_f11 ?_ | refine addB_f10 ?_ | refine addB_f9 ?_ | refine addB_f8 ?_ | refine addB_f7 ?_ | refine addB_f6 ?_ | refine addB_f5 ?_ | refine addB_f4 ?_ | refine addB_f3 ?_ | refine addB_f2 ?_ | refine addB_f1 ?_ | refine addB_f0 ?_); conv => whnf)
    rw [eA, eX]
    refine br_nd (by omega) ?_
    (conv => whnf); repeat ((first | refine br_d (by omega) ?_ | refine br_nd (by omega) ?_ | refine br_eq (by omega) ?_ | refine br_neq (by omega) ?_ | refine br_ne (by omega) ?_ | refine br_no (bo_eqn (by omega)) ?_ | refine Or.inl ?_ | refine okS_no (by kernel_rfl) ?_ | refine okS_yes (by kernel_rfl) ?_ | refine And_of (by (conv => whnf); (rw [getB_app0]); (conv => whnf)) ?_ | refine setB_app ?_ | refine setB_app0 ?_ | rw [getB_app] | rw [getB_app0] | refine addB_f13 ?_ | refine addB_f12 ?_ | refine addB_f11 ?_ | refine addB_f10 ?_ | refine addB_f9 ?_ | refine addB_f8 ?_ | refine addB_f7 ?_ | refine addB_f6 ?_ | refine addB_f5 ?_ | refine addB_f4 ?_ | refine addB_f3 ?_ | refine addB_f2 ?_ | refine addB_f1 ?_ | refine addB_f0 ?_); conv => whnf)
    exact ⟨rfl, [], by simp⟩
theorem uwrap_neg (i : Int) (h : -9223372036854775808 ≤ i ∧ i < 0) : IntKind.u64.wrap (0 - IntKind.u64.wrap i) = ((i.natAbs : Nat) : Int) := by
  have e1 : IntKind.u64.wrap i = i + 18446744073709551616 := by
    show i % 18446744073709551616 = _
    omega
  rw [e1]
  show (0 - (i + 18446744073709551616)) % 18446744073709551616 = _
  omega
theorem uwrap_pos (i : Int) (h : 0 ≤ i ∧ i < 9223372036854775808) : IntKind.u64.wrap i = ((i.natAbs : Nat) : Int) := by
  rw [wrap_u (by omega) (by omega)]; omega
theorem rfromint_ok (i : Int) (hi : in64 i) (m : List Blk) : COk Tryz.prog 3 141 [I i] m (F (nI i)) m := by
  have hi1 := hi.1
  have hi2 := hi.2
  rw [nI_is]
  by_cases h : i < 0
  · have hz : i.natAbs ≠ 0 := by omega
    have hz2 : i.natAbs < 18446744073709551616 := by omega
    have hs := rsmall_ok hz hz2
    obtain ⟨e1, e2⟩ := small_is i.natAbs hz2
    have e2 := e2 hz
    rw [← uwrap_neg i ⟨by omega, h⟩] at hs
    rw [e1, decide_eq_true h, wd_true]
    have ew : (9223372036854775808 + smallW i.natAbs : Nat) = (IntKind.u64.wrap (9223372036854775808 + ((smallW i.natAbs : Nat) : Int))).toNat := by
      rw [wrap_u (by omega) (by omega)]; omega
    generalize smallW i.natAbs = q at *
    have hf := rfrom_ok (IntKind.u64.wrap (9223372036854775808 + (q : Int)))
    refine COk_quiet Tryz.f141 Tryz.func141 (by kernel_rfl) rfl ?_
    (conv => whnf); repeat ((first | refine ⟨_, _, hs _, ?_⟩ | refine ⟨_, _, hf _, ?_⟩ | refine br_d (by omega) ?_); conv => whnf)
    refine ⟨?_, [], by simp⟩
    first | (rw [← ew]; done) | (rw [← ew, Nat.add_comm]; done) | (simp only [← ew]; done) | (congr 2; omega)
  · by_cases h0 : i = 0
    · subst h0
      have hf := rfrom_ok 0
      refine COk_quiet Tryz.f141 Tryz.func141 (by kernel_rfl) rfl ?_
      (conv => whnf); repeat ((first | refine ⟨_, _, rsmall_0 _, ?_⟩ | refine ⟨_, _, hf _, ?_⟩); conv => whnf)
      refine ⟨?_, [], by simp⟩
      rw [show Int.natAbs 0 = 0 from rfl, (small_is 0 (by decide)).1]; rfl
    have hz : i.natAbs ≠ 0 := by omega
    have hz2 : i.natAbs < 18446744073709551616 := by omega
    have hs := rsmall_ok hz hz2
    obtain ⟨e1, e2⟩ := small_is i.natAbs hz2
    have e2 := e2 hz
    rw [← uwrap_pos i ⟨by omega, hi2⟩] at hs
    rw [e1, decide_eq_false h, wd_false]
    have ew : smallW i.natAbs = (IntKind.u64.wrap (0 + ((smallW i.natAbs : Nat) : Int))).toNat := by
      rw [wrap_u (by omega) (by omega)]; omega
    generalize smallW i.natAbs = q at *
    have hf := rfrom_ok (IntKind.u64.wrap (0 + (q : Int)))
    refine COk_quiet Tryz.f141 Tryz.func141 (by kernel_rfl) rfl ?_
    (conv => whnf); repeat ((first | refine ⟨_, _, hs _, ?_⟩ | refine ⟨_, _, hf _, ?_⟩ | refine br_nd (by omega) ?_); conv => whnf)
    exact ⟨by rw [← ew], [], by simp⟩
/-! ### Round -/
theorem wrap_hi {n : Int} (h1 : 9223372036854775808 ≤ n) (h2 : n < 18446744073709551616) : IntKind.i64.wrap n = n - 18446744073709551616 := by
  have e : n % (2 ^ 64 : Int) = n := Int.emod_eq_of_lt (by omega) (by omega)
  have key : ∀ m : Int, n % (2 ^ 64 : Int) = m → IntKind.i64.wrap n = if (true && decide (m ≥ (2 ^ 63 : Int))) = true then m - 2 ^ 64 else m := fun m h => by rw [← h]; rfl
  rw [key _ e, if_pos (by simp; omega)]
  rfl
theorem rwhole_ok (g : Bool) (n : Nat) (h : n < 9223372036854775808) (m : List Blk) : COk Tryz.prog 3 178 [Bo g, U n] m (.tup [I (if g = true then -(n : Int) else n), Bo true]) m := by
  have e1 : IntKind.i64.wrap (n : Int) = n := wrap_id (by omega) (by omega)
  have e2 : IntKind.i64.wrap (IntKind.u64.wrap (0 - (n : Int))) = -(n : Int) := by
    by_cases h0 : n = 0
    · subst h0; decide
    · have e : IntKind.u64.wrap (0 - (n : Int)) = 18446744073709551616 - n := by
        show (0 - (n : Int)) % 18446744073709551616 = _
        omega
      rw [e, wrap_hi (by omega) (by omega)]
      omega
  cases g
  · refine COk_quiet Tryz.f178 Tryz.func178 (by kernel_rfl) rfl ?_
    (conv => whnf); repeat (refine br_nd (by omega) ?_; conv => whnf)
    exact ⟨by rw [e1]; rfl, [], by simp⟩
  · refine COk_quiet Tryz.f178 Tryz.func178 (by kernel_rfl) rfl ?_
    (conv => whnf); repeat (refine br_d (by omega) ?_; conv => whnf)
    exact ⟨by rw [e2]; rfl, [], by simp⟩
theorem rwhole_big (g : Bool) (m : List Blk) : COk Tryz.prog 3 178 [Bo g, U 9223372036854775808] m (.tup [I (if g = true then -9223372036854775808 else 0), Bo g]) m := by
  cases g
  · refine COk_quiet Tryz.f178 Tryz.func178 (by kernel_rfl) rfl ?_
    (conv => whnf); repeat ((first | refine br_d (by omega) ?_ | refine br_nd (by omega) ?_ | refine br_eq (by omega) ?_ | refine br_neq (by omega) ?_ | refine br_ne (by omega) ?_ | refine br_no (bo_eqn (by omega)) ?_ | refine Or.inl ?_ | refine okS_no (by kernel_rfl) ?_ | refine okS_yes (by kernel_rfl) ?_ | refine And_of (by (conv => whnf); (rw [getB_app0]); (conv => whnf)) ?_ | refine setB_app ?_ | refine setB_app0 ?_ | rw [getB_app] | rw [getB_app0] | refine addB_f13 ?_ | refine addB_f12 ?_ | refine addB_f11 ?_ | refine addB_f10 ?_ | refine addB_f9 ?_ | refine addB_f8 ?_ | refine addB_f7 ?_ | refine addB_f6 ?_ | refine addB_f5 ?_ | refine addB_f4 ?_ | refine addB_f3 ?_ | refine addB_f2 ?_ | refine addB_f1 ?_ | refine addB_f0 ?_); conv => whnf)
    exact ⟨rfl, [], by simp⟩
  · refine COk_quiet Tryz.f178 Tryz.func178 (by kernel_rfl) rfl ?_
    (conv => whnf); repeat ((first | refine br_d (by omega) ?_ | refine br_nd (by omega) ?_ | refine br_eq (by omega) ?_ | refine br_neq (by omega) ?_ | refine br_ne (by omega) ?_ | refine br_no (bo_eqn (by omega)) ?_ | refine Or.inl ?_ | refine okS_no (by kernel_rfl) ?_ | refine okS_yes (by kernel_rfl) ?_ | refine And_of (by (conv => whnf); (rw [getB_app0]); (conv => whnf)) ?_ | refine setB_app ?_ | refine setB_app0 ?_ | rw [getB_app] | rw [getB_app0] | refine addB_f13 ?_ | refine addB_f12 ?_ | refine addB_f11 ?_ | refine addB_f10 ?_ | refine addB_f9 ?_ | refine addB_f8 ?_ | refine addB_f7 ?_ | refine addB_f6 ?_ | refine addB_f5 ?_ | refine addB_f4 ?_ | refine addB_f3 ?_ | refine addB_f2 ?_ | refine addB_f1 ?_ | refine addB_f0 ?_); conv => whnf)
    exact ⟨rfl, [], by simp⟩
theorem rr_inf (b : Nat) (g : Bool) (hp : ∀ m, COk Tryz.prog 3 155 [F b] m (.tup [Bo g, U 0, I 0, I 1]) m) (m : List Blk) : COk Tryz.prog 3 163 [F b] m (.tup [I 0, Bo false]) m := by
  refine COk_quiet Tryz.f163 Tryz.func163 (by kernel_rfl) rfl ?_
  (conv => whnf); repeat (refine ⟨_, _, hp _, ?_⟩; conv => whnf)
  exact ⟨rfl, [], by simp⟩
theorem rr_nan (b : Nat) (g : Bool) (hp : ∀ m, COk Tryz.prog 3 155 [F b] m (.tup [Bo g, U 0, I 0, I 2]) m) (m : List Blk) : COk Tryz.prog 3 163 [F b] m (.tup [I 0, Bo false]) m := by
  refine COk_quiet Tryz.f163 Tryz.func163 (by kernel_rfl) rfl ?_
  (conv => whnf); repeat (refine ⟨_, _, hp _, ?_⟩; conv => whnf)
  exact ⟨rfl, [], by simp⟩
theorem rr_low (b : Nat) (g : Bool) (K e r v : Int) (ok : Bool) (hp : ∀ m, COk Tryz.prog 3 155 [F b] m (.tup [Bo g, U K, I e, I 0]) m) (he : decide (e ≥ 0) = false) (hn : ∀ m, COk Tryz.prog 3 156 [U K, I (IntKind.i64.wrap (0 - e))] m (U r) m) (hw : ∀ m, COk Tryz.prog 3 178 [Bo g, U r] m (.tup [I v, Bo ok]) m) (m : List Blk) : COk Tryz.prog 3 163 [F b] m (.tup [I v, Bo ok]) m := by
  refine COk_quiet Tryz.f163 Tryz.func163 (by kernel_rfl) rfl ?_
  (conv => whnf); repeat ((first | refine ⟨_, _, hp _, ?_⟩ | refine br_no he ?_ | refine ⟨_, _, hn _, ?_⟩ | refine ⟨_, _, hw _, ?_⟩); conv => whnf)
  exact ⟨rfl, [], by simp⟩
theorem rr_high (b : Nat) (g : Bool) (K e v : Int) (ok : Bool) (hp : ∀ m, COk Tryz.prog 3 155 [F b] m (.tup [Bo g, U K, I e, I 0]) m) (he : decide (e ≥ 0) = true) (hg : ∀ m, COk Tryz.prog 3 157 [U K, I e] m (Bo false) m) (hw : ∀ m, COk Tryz.prog 3 178 [Bo g, U (shI K e)] m (.tup [I v, Bo ok]) m) (m : List Blk) : COk Tryz.prog 3 163 [F b] m (.tup [I v, Bo ok]) m := by
  refine COk_quiet Tryz.f163 Tryz.func163 (by kernel_rfl) rfl ?_
  (conv => whnf); repeat ((first | refine ⟨_, _, hp _, ?_⟩ | refine br_yes he ?_ | refine ⟨_, _, hg _, ?_⟩ | refine br_yes (u64_nn _) ?_ | refine ⟨_, _, hw _, ?_⟩); conv => whnf)
  exact ⟨rfl, [], by simp⟩
theorem rr_great (b : Nat) (g : Bool) (K e : Int) (hp : ∀ m, COk Tryz.prog 3 155 [F b] m (.tup [Bo g, U K, I e, I 0]) m) (he : decide (e ≥ 0) = true) (hg : ∀ m, COk Tryz.prog 3 157 [U K, I e] m (Bo true) m) (m : List Blk) : COk Tryz.prog 3 163 [F b] m (.tup [I 0, Bo false]) m := by
  refine COk_quiet Tryz.f163 Tryz.func163 (by kernel_rfl) rfl ?_
  (conv => whnf); repeat ((first | refine ⟨_, _, hp _, ?_⟩ | refine br_yes he ?_ | refine ⟨_, _, hg _, ?_⟩); conv => whnf)
  exact ⟨rfl, [], by simp⟩
theorem rround_w (b : Nat) (hb : b < 18446744073709551616) : ∃ ok, ∀ m : List Blk, COk Tryz.prog 3 163 [F b] m (.tup [I (roundT (some b)), Bo ok]) m := by
  have hi := infR_eq
  have hw : wholeB = 4890909195324358656 := rfl
  rcases nan_or hb with hn | ⟨s, R, hR, rfl⟩
  · rw [roundT_nan hn]
    obtain ⟨h1, h2⟩ := hn
    have e3 : f64.signWeight = 2 ^ 63 := by decide
    have h2 : f64.infRung < b % f64.signWeight := h2
    have e4 : f64.infRung = infR := rfl
    rw [e3, e4] at h2
    have f1 : (fldI b == 2047) = true := by rw [fld_eq]; simpa using (by omega : ((b / 4503599627370496 % 2048 : Nat) : Int) = 2047)
    have f2 : (mI b == 0) = false := by rw [mI_eq]; simpa using (by omega : ¬ ((b % 4503599627370496 : Nat) : Int) = 0)
    exact ⟨_, rr_nan b _ (parts_nan b f1 f2)⟩
  · rw [roundT_wd s hR]
    have hsg : sgB (wd s R) = s := by
      rw [sg_eq]
      cases s
      · rw [wd_false]; exact decide_eq_false (by omega)
      · rw [wd_true]; exact decide_eq_true (by omega)
    have hfl : fldI (wd s R) = ((R / 4503599627370496 : Nat) : Int) := by
      rw [fld_eq]
      cases s
      · rw [wd_false]; omega
      · rw [wd_true]; omega
    have hmm : mI (wd s R) = ((R % 4503599627370496 : Nat) : Int) := by
      rw [mI_eq]
      cases s
      · rw [wd_false]
      · rw [wd_true]; omega
    rcases Nat.lt_or_ge R infR with h1 | h1
    · have f1 : (fldI (wd s R) == 2047) = false := by rw [hfl]; simpa using (by omega : ¬ ((R / 4503599627370496 : Nat) : Int) = 2047)
      rcases Nat.lt_or_ge R 4503599627370496 with h2 | h2
      · have f2 : (fldI (wd s R) == 0) = true := by rw [hfl]; simpa using (by omega : ((R / 4503599627370496 : Nat) : Int) = 0)
        have hp := parts_sub _ f1 f2
        rw [hsg, hmm, Nat.mod_eq_of_lt h2] at hp
        have en : nearZ R = nearN R 1074 := by unfold nearZ; rw [if_pos h2]
        have hz := (near_is (R := R) (by omega)).choose_spec.2.2
        rw [en] at hz
        rw [if_pos (by omega), en]
        exact ⟨_, rr_low _ _ _ _ _ _ _ hp (by decide) (nearW R 1074 (by omega) (by decide) (Nat.le_refl _)) (rwhole_ok s _ hz)⟩
      · have f2 : (fldI (wd s R) == 0) = false := by rw [hfl]; simpa using (by omega : ¬ ((R / 4503599627370496 : Nat) : Int) = 0)
        have hp := parts_norm _ f1 f2
        rw [hsg, hmm, hfl, wrap_u (n := ((R % 4503599627370496 : Nat) : Int) + 4503599627370496) (by omega) (by omega), wrap_id (n := ((R / 4503599627370496 : Nat) : Int) - 1075) (by omega) (by omega)] at hp
        rw [show ((R % 4503599627370496 : Nat) : Int) + 4503599627370496 = ((R % 4503599627370496 + 4503599627370496 : Nat) : Int) by omega] at hp
        rcases Nat.lt_or_ge (R / 4503599627370496) 1075 with h3 | h3
        · have hnw := nearW (R % 4503599627370496 + 4503599627370496) (1075 - R / 4503599627370496) (by omega) (by omega) (by omega)
          have en : nearZ R = nearN (R % 4503599627370496 + 4503599627370496) (1075 - R / 4503599627370496) := by unfold nearZ; rw [if_neg (by omega), if_pos (by omega)]
          have hz := (near_is (R := R) (by omega)).choose_spec.2.2
          rw [en] at hz
          rw [if_pos (by omega), en]
          exact ⟨_, rr_low _ _ _ _ _ _ _ hp (decide_eq_false (by omega)) (by rw [wrap_id (by omega) (by omega), show (0 : Int) - (((R / 4503599627370496 : Nat) : Int) - 1075) = ((1075 - R / 4503599627370496 : Nat) : Int) by omega]; exact hnw) (rwhole_ok s _ hz)⟩
        · obtain ⟨e, he⟩ : ∃ e, R / 4503599627370496 = 1075 + e := ⟨R / 4503599627370496 - 1075, by omega⟩
          rw [show ((R / 4503599627370496 : Nat) : Int) - 1075 = (e : Int) by omega] at hp
          have hg := great_ok ((R % 4503599627370496 + 4503599627370496 : Nat) : Int) (e : Int)
          have hK0 : (((R % 4503599627370496 + 4503599627370496 : Nat) : Int) != 0) = true := by simpa using (by omega : ¬ ((R % 4503599627370496 + 4503599627370496 : Nat) : Int) = 0)
          rcases Nat.lt_or_ge 11 e with h4 | h4
          · rw [hK0, decide_eq_true (by omega)] at hg
            rw [if_neg (by omega), if_neg (by omega)]
            exact ⟨_, rr_great _ _ _ _ hp (decide_eq_true (by omega)) hg⟩
          · have hgi : gI (e : Int) = ((9223372036854775808 / 2 ^ e : Nat) : Int) := by
              unfold gI
              rw [sh_id e (by omega), show (2 : Int) ^ e = ((2 ^ e : Nat) : Int) by push_cast; rfl, Int.fdiv_eq_ediv_of_nonneg _ (Int.natCast_nonneg _), show (9223372036854775808 : Int) = ((9223372036854775808 : Nat) : Int) from rfl, ← Int.natCast_ediv]
            rw [hK0, decide_eq_false (show ¬ (e : Int) > 11 by omega), Bool.true_and, Bool.false_or, hgi] at hg
            rcases Nat.lt_or_ge e 11 with h5 | h5
            · have hd : 9007199254740992 ≤ 9223372036854775808 / 2 ^ e := by
                have : 2 ^ e ≤ 2 ^ 10 := Nat.pow_le_pow_right (by decide) (by omega)
                exact (Nat.le_div_iff_mul_le (Nat.pow_pos (by decide))).2 (by omega)
              rw [decide_eq_false (by omega)] at hg
              have en : nearZ R = (R % 4503599627370496 + 4503599627370496) * 2 ^ e := by
                unfold nearZ; rw [if_neg (by omega), if_neg (by omega), show R / 4503599627370496 - 1075 = e by omega]
              have hz := (near_is (R := R) (by omega)).choose_spec.2.2
              rw [en] at hz
              have hsh : shI ((R % 4503599627370496 + 4503599627370496 : Nat) : Int) (e : Int) = (((R % 4503599627370496 + 4503599627370496) * 2 ^ e : Nat) : Int) := by
                unfold shI
                rw [sh_id e (by omega), show (2 : Int) ^ e = ((2 ^ e : Nat) : Int) by push_cast; rfl, ← Int.natCast_mul]
                generalize (R % 4503599627370496 + 4503599627370496) * 2 ^ e = z at *
                exact wrap_u (by omega) (by omega)
              rw [if_pos (by omega), en]
              exact ⟨_, rr_high _ _ _ _ _ _ hp (decide_eq_true (by omega)) hg (by rw [hsh]; exact rwhole_ok s _ hz)⟩
            · obtain rfl : e = 11 := by omega
              rw [if_neg (by omega)]
              rcases Nat.lt_or_ge 4503599627370496 (R % 4503599627370496 + 4503599627370496) with h6 | h6
              · rw [decide_eq_true (by omega)] at hg
                rw [if_neg (by omega)]
                exact ⟨_, rr_great _ _ _ _ hp (decide_eq_true (by omega)) hg⟩
              · rw [decide_eq_false (by omega)] at hg
                have hsh : shI ((R % 4503599627370496 + 4503599627370496 : Nat) : Int) ((11 : Nat) : Int) = 9223372036854775808 := by
                  rw [show R % 4503599627370496 + 4503599627370496 = 4503599627370496 by omega]; decide
                have hx := rwhole_big s
                have hRw : R = wholeB := by omega
                refine ⟨_, rr_high _ _ _ _ _ _ hp (decide_eq_true (by omega)) hg (by rw [hsh]; intro m; have := hx m; rw [show (if s = true then (-9223372036854775808 : Int) else 0) = if s = true ∧ R = wholeB then -9223372036854775808 else 0 by simp only [hRw, and_true]] at this; exact this)⟩
    · obtain rfl : R = infR := by omega
      have f1 : (fldI (wd s infR) == 2047) = true := by rw [hfl, hi]; rfl
      have f2 : (mI (wd s infR) == 0) = true := by rw [hmm, hi]; rfl
      have hp := parts_inf _ f1 f2
      rw [hsg] at hp
      rw [if_neg (by omega), if_neg (by omega)]
      exact ⟨_, rr_inf _ _ hp⟩
theorem rround_ok (o : Option Nat) (hb : Wd o) : ∃ ok, ∀ m : List Blk, COk Tryz.prog 3 163 [.fl o] m (.tup [I (roundT o), Bo ok]) m := by
  cases o with
  | none =>
    refine ⟨false, fun m => COk_bits [] (bs := []) (fun b hn => ?_)⟩
    have hi := infR_eq
    obtain ⟨h1, h2⟩ := hn
    have e3 : f64.signWeight = 2 ^ 63 := by decide
    have h2 : f64.infRung < b % f64.signWeight := h2
    have e4 : f64.infRung = infR := rfl
    rw [e3, e4] at h2
    have f1 : (fldI b == 2047) = true := by rw [fld_eq]; simpa using (by omega : ((b / 4503599627370496 % 2048 : Nat) : Int) = 2047)
    have f2 : (mI b == 0) = false := by rw [mI_eq]; simpa using (by omega : ¬ ((b % 4503599627370496 : Nat) : Int) = 0)
    exact rr_nan b _ (parts_nan b f1 f2) m
  | some b => exact rround_w b (hb b rfl)
end Go.Proofs.YtgoljofmbidkfaaGreatDoor
/- The reference's corners, middles, lengths, gaps and areas. No condition. -/
namespace Go.Proofs.YtgoljofmbidkfaaGreatDoor
open Go Go.Eng Ieee
set_option maxRecDepth 100000
set_option linter.unusedSimpArgs false
set_option linter.unusedVariables false

theorem rratio_ok (k n : Int) (hk : in64 k) (hn : in64 n) (m : List Blk) : COk Tryz.prog 3 173 [I k, I n] m (.fl (ratioO k n)) m := by
  have h1 := rfromint_ok k hk
  have h2 := rfromint_ok n hn
  refine COk_quiet Tryz.f173 Tryz.func173 (by kernel_rfl) rfl ?_
  (conv => whnf); repeat ((first | refine ⟨_, _, h1 _, ?_⟩ | refine ⟨_, _, h2 _, ?_⟩); conv => whnf)
  exact ⟨rfl, [], by simp⟩
theorem rcorner_in (n f : Nat) {a b : Int} {i j : Nat} (ha : a = i) (hb : b = j) (h1 : 1 ≤ n) (h2 : n ≤ 32) (hf : f < 6) (hi : i ≤ n) (hj : j ≤ n) (x : List Blk) : COk Tryz.prog 3 159 [I n, I f, I a, I b] (GG x) (.tup [(cornerF n f i j).v, Bo true]) (GG x) := by
  refine lift ?_ rfl x
  subst ha hb
  have w1 : IntKind.i64.wrap (IntKind.i64.wrap (2 * (i : Int)) - n) = 2 * i - n := by simp (disch := omega) only [wrap_id]
  have w2 : IntKind.i64.wrap (IntKind.i64.wrap (2 * (j : Int)) - n) = 2 * j - n := by simp (disch := omega) only [wrap_id]
  have r1 := rratio_ok (2 * i - n) n ⟨by omega, by omega⟩ ⟨by omega, by omega⟩
  have r2 := rratio_ok (2 * j - n) n ⟨by omega, by omega⟩ ⟨by omega, by omega⟩
  have hp := rpoint_ok f hf (p := ratioO (2 * i - n) n) (q := ratioO (2 * j - n) n) (fdiv_lt _ _) (fdiv_lt _ _)
  rw [← w1] at r1
  rw [← w2] at r2
  rw [← w1, ← w2] at hp
  unfold cornerF
  rw [← w1, ← w2]
  refine COk_quiet Tryz.f159 Tryz.func159 (by kernel_rfl) rfl ?_
  (conv => whnf); repeat ((first | refine ⟨_, _, r1 _, ?_⟩ | refine ⟨_, _, r2 _, ?_⟩ | refine ⟨_, _, hp _, ?_⟩ | refine br_nd (by omega) ?_); conv => whnf)
  exact ⟨rfl, _, rfl⟩
theorem rarea_in (n f i j : Nat) (h1 : 1 ≤ n) (h2 : n ≤ 32) (hf : f < 6) (hi : i < n) (hj : j < n) (x : List Blk) : COk Tryz.prog 3 142 [I n, I (cellN n f i j)] (GG x) (I (areaT n f i j)) (GG x) := by
  refine lift ?_ rfl x
  have w1 : IntKind.i64.wrap ((i : Int) + 1) = ((i + 1 : Nat) : Int) := by rw [wrap_id (by omega) (by omega)]; rfl
  have w2 : IntKind.i64.wrap ((j : Int) + 1) = ((j + 1 : Nat) : Int) := by rw [wrap_id (by omega) (by omega)]; rfl
  have c00 := rcorner_in n f (i := i) (j := j) rfl rfl h1 h2 hf (by omega) (by omega)
  have c11 := rcorner_in n f (i := i + 1) (j := j + 1) w1 w2 h1 h2 hf (by omega) (by omega)
  have c10 := rcorner_in n f (i := i + 1) (j := j) w1 rfl h1 h2 hf (by omega) (by omega)
  have c01 := rcorner_in n f (i := i) (j := j + 1) rfl w2 h1 h2 hf (by omega) (by omega)
  obtain ⟨ok, hr⟩ := rround_ok (areaY (cornerF n f i j) (cornerF n f (i + 1) j) (cornerF n f (i + 1) (j + 1)) (cornerF n f i (j + 1))) (fmul_lt' _ _)
  unfold areaT
  simp only
  generalize hv : roundT (areaY (cornerF n f i j) (cornerF n f (i + 1) j) (cornerF n f (i + 1) (j + 1)) (cornerF n f i (j + 1))) = v at hr ⊢
  by_cases hlt : 1 > v
  · rw [if_pos hlt]
    refine COk_quiet Tryz.f142 Tryz.func142 (by kernel_rfl) rfl ?_
    (conv => whnf); repeat ((first | refine ⟨_, _, rplace_in n f i j h1 h2 hf hi hj _, ?_⟩ | refine ⟨_, _, c00 _, ?_⟩ | refine ⟨_, _, c11 _, ?_⟩ | refine ⟨_, _, c10 _, ?_⟩ | refine ⟨_, _, c01 _, ?_⟩ | refine ⟨_, rminus_ok _ _ _, ?_⟩ | refine ⟨_, rcross_ok (minusF (cornerF n f (i + 1) (j + 1)) (cornerF n f i j)) (minusF (cornerF n f i (j + 1)) (cornerF n f (i + 1) j)) _, ?_⟩ | refine ⟨_, rlength_ok (crossF (minusF (cornerF n f (i + 1) (j + 1)) (cornerF n f i j)) (minusF (cornerF n f i (j + 1)) (cornerF n f (i + 1) j))) _, ?_⟩ | refine ⟨_, _, hr _, ?_⟩ | refine br_d (by omega) ?_); conv => whnf)
    exact ⟨rfl, _, rfl⟩
  · rw [if_neg hlt]
    refine COk_quiet Tryz.f142 Tryz.func142 (by kernel_rfl) rfl ?_
    (conv => whnf); repeat ((first | refine ⟨_, _, rplace_in n f i j h1 h2 hf hi hj _, ?_⟩ | refine ⟨_, _, c00 _, ?_⟩ | refine ⟨_, _, c11 _, ?_⟩ | refine ⟨_, _, c10 _, ?_⟩ | refine ⟨_, _, c01 _, ?_⟩ | refine ⟨_, rminus_ok _ _ _, ?_⟩ | refine ⟨_, rcross_ok (minusF (cornerF n f (i + 1) (j + 1)) (cornerF n f i j)) (minusF (cornerF n f i (j + 1)) (cornerF n f (i + 1) j)) _, ?_⟩ | refine ⟨_, rlength_ok (crossF (minusF (cornerF n f (i + 1) (j + 1)) (cornerF n f i j)) (minusF (cornerF n f i (j + 1)) (cornerF n f (i + 1) j))) _, ?_⟩ | refine ⟨_, _, hr _, ?_⟩ | refine br_nd (by omega) ?_); conv => whnf)
    exact ⟨rfl, _, rfl⟩
end Go.Proofs.YtgoljofmbidkfaaGreatDoor
/- Questions to the reference's net, and to none; what the program's net answers where nothing is. No condition. -/
namespace Go.Proofs.YtgoljofmbidkfaaGreatDoor
open Go Go.Eng
set_option maxRecDepth 100000
set_option linter.unusedSimpArgs false
set_option linter.unusedVariables false

/-- A contract at the globals with more, in memory of that form. -/
theorem topM {M : List Blk} (hm : Top M) {f : FuncId} {args : List V} {r : V} (h : ∀ x, COk Tryz.prog 3 f args (GG x) r (GG x)) : ∀ z, COk Tryz.prog 3 f args (M ++ z) r (M ++ z) := fun z => by
  obtain ⟨x, rfl⟩ := hm
  exact h (x ++ z)
/-! ### Nothing is known of what is not there -/
def Inside (n : Nat) (f : Int → Int → Option Int) : Prop := ∀ a t : Int, f a t ≠ none → (0 ≤ a ∧ a < ((6 * (n * n) : Nat) : Int)) ∧ 0 ≤ t ∧ t < 4
/-! ### The reference's net -/
abbrev nilP : V := .raw (.pointer none)
section
variable {m : List Blk} {b n : Nat} (N : RNet m b n)
include N
theorem rside_ok : COk Tryz.prog 3 121 [.ptr (b + 1) 0] m (I n) m := by
  refine COk_quiet Tryz.f121 Tryz.func121 (by kernel_rfl) rfl ?_
  (conv => whnf); repeat (rw [N.gr]; conv => whnf)
  exact ⟨rfl, [], by simp⟩
end
section
variable {m : List Blk} {b n : Nat} (hm : Top m) (N : RNet m b n)
include hm N
theorem rgarea_ok (hn : 1 ≤ n) (hn' : n ≤ 32) {c : Nat} (hc : c < 6 * (n * n)) : COk Tryz.prog 3 104 [.ptr (b + 1) 0, I c] m (I (areaC n c)) m := by
  obtain ⟨p0, p1, p2, p3⟩ := cell_parts hn hc
  have q := topM hm (rarea_in n (c / (n * n)) (c % n) (c / n % n) hn hn' p1 p2 p3) []
  rw [← p0, List.append_nil] at q
  refine COk_quiet Tryz.f104 Tryz.func104 (by kernel_rfl) rfl ?_
  (conv => whnf); repeat ((first | refine ⟨_, _, rside_ok N, ?_⟩ | refine ⟨_, _, q, ?_⟩); conv => whnf)
  exact ⟨rfl, [], by simp⟩
end
/-! ### The program's net where nothing is -/
section
variable {m : List Blk} {b n : Nat} (N : Net m b n)
include N
end
/-! ### None -/
end Go.Proofs.YtgoljofmbidkfaaGreatDoor
