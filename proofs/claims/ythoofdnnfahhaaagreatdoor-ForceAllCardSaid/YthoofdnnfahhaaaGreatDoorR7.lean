/- The reference's sums of three, vectors, whole numbers as floats. No condition. -/
import Derived.Test.YthoofdnnfahhaaaGreatDoorR1
namespace Go.Proofs.YthoofdnnfahhaaaGreatDoor
open Go Go.Eng Ieee
set_option maxRecDepth 100000
set_option linter.unusedSimpArgs false
set_option linter.unusedVariables false

theorem rquieted_ok {o : Option Nat} (hb : Wd o) (m : List Blk) : COk Tryz.prog 3 208 [.fl o] m (F (quietF o)) m := by
  have hn := rnone_ok hb
  unfold quietF
  cases o with
  | none =>
    have e : fne none none = true := rfl
    rw [e] at hn ⊢
    refine COk_quiet Tryz.f208 Tryz.func208 (by kernel_rfl) rfl ?_
    (conv => whnf); repeat ((first | refine ⟨_, _, hn _, ?_⟩ | refine ⟨_, _, rquiet_ok _, ?_⟩); conv => whnf)
    exact ⟨rfl, [], by simp⟩
  | some b =>
    cases h : fne (some b) (some b)
    · rw [h] at hn
      rw [if_neg (by decide)]
      refine COk_quiet Tryz.f208 Tryz.func208 (by kernel_rfl) rfl ?_
      (conv => whnf); repeat (refine ⟨_, _, hn _, ?_⟩; conv => whnf)
      exact ⟨rfl, [], by simp⟩
    · rw [h] at hn
      rw [if_pos rfl]
      refine COk_quiet Tryz.f208 Tryz.func208 (by kernel_rfl) rfl ?_
      (conv => whnf); repeat ((first | refine ⟨_, _, hn _, ?_⟩ | refine ⟨_, _, rquiet_ok _, ?_⟩); conv => whnf)
      exact ⟨rfl, [], by simp⟩
theorem rahead_ok (a b : Nat) (m : List Blk) : COk Tryz.prog 3 207 [F a, F b] m (Bo (aheadR a b)) m := by
  have ha := rmag_ok a
  have hb := rmag_ok b
  have ho := rorder_ok a b
  unfold aheadR
  generalize a % 9223372036854775808 = p at *
  generalize b % 9223372036854775808 = q at *
  generalize orderR a b = r at *
  by_cases h1 : p < q
  · rw [decide_eq_true (.inl h1)]
    refine COk_quiet Tryz.f207 Tryz.func207 (by kernel_rfl) rfl ?_
    (conv => whnf); repeat ((first | refine ⟨_, _, ha _, ?_⟩ | refine ⟨_, _, hb _, ?_⟩ | refine br_d (by omega) ?_); conv => whnf)
    exact ⟨rfl, [], by simp⟩
  by_cases h2 : p = q
  · have e2 : (((p : Nat) : Int) == (q : Int)) = true := beq_iff_eq.2 (by omega)
    by_cases h3 : r < 0
    · rw [decide_eq_true (.inr ⟨h2, h3⟩)]
      refine COk_quiet Tryz.f207 Tryz.func207 (by kernel_rfl) rfl ?_
      (conv => whnf); repeat ((first | refine ⟨_, _, ha _, ?_⟩ | refine ⟨_, _, hb _, ?_⟩ | refine ⟨_, _, ho _, ?_⟩ | refine br_yes e2 ?_ | refine br_nd (by omega) ?_); conv => whnf)
      exact ⟨congrArg V.bool (by simp; omega), [], by simp⟩
    · rw [decide_eq_false (by omega)]
      refine COk_quiet Tryz.f207 Tryz.func207 (by kernel_rfl) rfl ?_
      (conv => whnf); repeat ((first | refine ⟨_, _, ha _, ?_⟩ | refine ⟨_, _, hb _, ?_⟩ | refine ⟨_, _, ho _, ?_⟩ | refine br_yes e2 ?_ | refine br_nd (by omega) ?_); conv => whnf)
      exact ⟨congrArg V.bool (by simp; omega), [], by simp⟩
  · have e2 : (((p : Nat) : Int) == (q : Int)) = false := beq_eq_false_iff_ne.2 (by omega)
    rw [decide_eq_false (by omega)]
    refine COk_quiet Tryz.f207 Tryz.func207 (by kernel_rfl) rfl ?_
    (conv => whnf); repeat ((first | refine ⟨_, _, ha _, ?_⟩ | refine ⟨_, _, hb _, ?_⟩ | refine br_no e2 ?_ | refine br_nd (by omega) ?_); conv => whnf)
    exact ⟨rfl, [], by simp⟩
theorem rthree_w {a b c : Nat} (ha : a < 18446744073709551616) (hb : b < 18446744073709551616) (hc : c < 18446744073709551616) (m : List Blk) : COk Tryz.prog 3 156 [F a, F b, F c] m (F (threeF a b c)) m := by
  have e : threeF a b c = quietF (fadd (fadd (some (sortR a b c).1) (some (sortR a b c).2.1)) (some (sortR a b c).2.2)) := by
    unfold threeF
    rw [sortR_is ha hb hc]; rfl
  rw [e]
  unfold sortR
  have k1 := rahead_ok b a
  cases h1 : aheadR b a
  · rw [h1] at k1
    have k2 := rahead_ok c b
    cases h2 : aheadR c b
    · rw [h2] at k2
      have k3 := k1
      have hq := rquieted_ok (fadd_lt (fadd (some a) (some b)) (some c))
      simp only [h1, h2, Bool.false_eq_true, if_false]
      refine COk_quiet Tryz.f156 Tryz.func156 (by kernel_rfl) rfl ?_
      (conv => whnf); repeat ((first | refine ⟨_, _, k1 _, ?_⟩ | refine ⟨_, _, k2 _, ?_⟩ | refine ⟨_, _, hq _, ?_⟩); conv => whnf)
      exact ⟨rfl, [], by simp⟩
    · rw [h2] at k2
      have k3 := rahead_ok c a
      cases h3 : aheadR c a
      · rw [h3] at k3
        have hq := rquieted_ok (fadd_lt (fadd (some a) (some c)) (some b))
        simp only [h1, h2, h3, Bool.false_eq_true, if_false, if_true]
        refine COk_quiet Tryz.f156 Tryz.func156 (by kernel_rfl) rfl ?_
        (conv => whnf); repeat ((first | refine ⟨_, _, k1 _, ?_⟩ | refine ⟨_, _, k2 _, ?_⟩ | refine ⟨_, _, k3 _, ?_⟩ | refine ⟨_, _, hq _, ?_⟩); conv => whnf)
        exact ⟨rfl, [], by simp⟩
      · rw [h3] at k3
        have hq := rquieted_ok (fadd_lt (fadd (some c) (some a)) (some b))
        simp only [h1, h2, h3, Bool.false_eq_true, if_false, if_true]
        refine COk_quiet Tryz.f156 Tryz.func156 (by kernel_rfl) rfl ?_
        (conv => whnf); repeat ((first | refine ⟨_, _, k1 _, ?_⟩ | refine ⟨_, _, k2 _, ?_⟩ | refine ⟨_, _, k3 _, ?_⟩ | refine ⟨_, _, hq _, ?_⟩); conv => whnf)
        exact ⟨rfl, [], by simp⟩
  · rw [h1] at k1
    have k2 := rahead_ok c a
    cases h2 : aheadR c a
    · rw [h2] at k2
      have k3 := rahead_ok a b
      have h3 := ahead_asym h1
      rw [h3] at k3
      have hq := rquieted_ok (fadd_lt (fadd (some b) (some a)) (some c))
      simp only [h1, h2, h3, Bool.false_eq_true, if_false, if_true]
      refine COk_quiet Tryz.f156 Tryz.func156 (by kernel_rfl) rfl ?_
      (conv => whnf); repeat ((first | refine ⟨_, _, k1 _, ?_⟩ | refine ⟨_, _, k2 _, ?_⟩ | refine ⟨_, _, k3 _, ?_⟩ | refine ⟨_, _, hq _, ?_⟩); conv => whnf)
      exact ⟨rfl, [], by simp⟩
    · rw [h2] at k2
      have k3 := rahead_ok c b
      cases h3 : aheadR c b
      · rw [h3] at k3
        have hq := rquieted_ok (fadd_lt (fadd (some b) (some c)) (some a))
        simp only [h1, h2, h3, Bool.false_eq_true, if_false, if_true]
        refine COk_quiet Tryz.f156 Tryz.func156 (by kernel_rfl) rfl ?_
        (conv => whnf); repeat ((first | refine ⟨_, _, k1 _, ?_⟩ | refine ⟨_, _, k2 _, ?_⟩ | refine ⟨_, _, k3 _, ?_⟩ | refine ⟨_, _, hq _, ?_⟩); conv => whnf)
        exact ⟨rfl, [], by simp⟩
      · rw [h3] at k3
        have hq := rquieted_ok (fadd_lt (fadd (some c) (some b)) (some a))
        simp only [h1, h2, h3, Bool.false_eq_true, if_false, if_true]
        refine COk_quiet Tryz.f156 Tryz.func156 (by kernel_rfl) rfl ?_
        (conv => whnf); repeat ((first | refine ⟨_, _, k1 _, ?_⟩ | refine ⟨_, _, k2 _, ?_⟩ | refine ⟨_, _, k3 _, ?_⟩ | refine ⟨_, _, hq _, ?_⟩); conv => whnf)
        exact ⟨rfl, [], by simp⟩
theorem fden_lt {o : Option Nat} (hb : Wd o) {x : Nat} (h : fden o x) : x < 18446744073709551616 := by
  cases o with
  | none => have := h.1; omega
  | some b => cases h; exact hb _ rfl
theorem rthree_ok {a b c : Option Nat} (ha : Wd a) (hb : Wd b) (hc : Wd c) (m : List Blk) : COk Tryz.prog 3 156 [.fl a, .fl b, .fl c] m (F (threeO a b c)) m := by
  refine COk_bits [] fun x1 h1 => COk_bits [F x1] fun x2 h2 => COk_bits [F x1, F x2] fun x3 h3 => ?_
  rw [← threeO_of h1 h2 h3]
  exact rthree_w (fden_lt ha h1) (fden_lt hb h2) (fden_lt hc h3) m
theorem rmade_ok {a b c : Option Nat} (ha : Wd a) (hb : Wd b) (hc : Wd c) (x : List Blk) : COk Tryz.prog 3 157 [.fl a, .fl b, .fl c] (GG x) (V3f (canonF a) (canonF b) (canonF c)) (GG x) := by
  refine lift ?_ rfl x
  refine COk_quiet Tryz.f157 Tryz.func157 (by kernel_rfl) rfl ?_
  (conv => whnf); repeat ((first | refine ⟨_, _, rcanon_ok ha _, ?_⟩ | refine ⟨_, _, rcanon_ok hb _, ?_⟩ | refine ⟨_, _, rcanon_ok hc _, ?_⟩); conv => whnf)
  exact ⟨rfl, _, rfl⟩
theorem rminus_ok (a b : W) (x : List Blk) : COk Tryz.prog 3 78 [a.v, b.v] (GG x) (minusF a b).v (GG x) := by
  refine lift ?_ rfl x
  have h := rmade_ok (fsub_lt (some a.x) (some b.x)) (fsub_lt (some a.y) (some b.y)) (fsub_lt (some a.z) (some b.z))
  refine COk_quiet Tryz.f78 Tryz.func78 (by kernel_rfl) rfl ?_
  (conv => whnf); repeat (refine ⟨_, _, h _, ?_⟩; conv => whnf)
  exact ⟨rfl, _, rfl⟩
theorem rless_ok (p q r s : Nat) (m : List Blk) : COk Tryz.prog 3 158 [F p, F q, F r, F s] m (.fl (fsub (fmul (some p) (some q)) (fmul (some r) (some s)))) m := by
  refine COk_quiet Tryz.f158 Tryz.func158 (by kernel_rfl) rfl ?_
  (conv => whnf)
  exact ⟨rfl, [], by simp⟩
theorem rcross_ok (a b : W) (x : List Blk) : COk Tryz.prog 3 77 [a.v, b.v] (GG x) (crossF a b).v (GG x) := by
  refine lift ?_ rfl x
  have h := rmade_ok (fsub_lt (fmul (some a.y) (some b.z)) (fmul (some a.z) (some b.y))) (fsub_lt (fmul (some a.z) (some b.x)) (fmul (some a.x) (some b.z))) (fsub_lt (fmul (some a.x) (some b.y)) (fmul (some a.y) (some b.x)))
  refine COk_quiet Tryz.f77 Tryz.func77 (by kernel_rfl) rfl ?_
  (conv => whnf); repeat ((first | refine ⟨_, rless_ok _ _ _ _ _, ?_⟩ | refine ⟨_, h _, ?_⟩); conv => whnf)
  exact ⟨rfl, _, rfl⟩
theorem fsqrt_lt (o : Option Nat) : Wd (fsqrt o) := by
  cases o with
  | none => exact fun b h => nomatch h
  | some a => rw [fsqrt_is]; exact map_lt
theorem rsqrt_ok (o : Option Nat) (m : List Blk) : COk Tryz.prog 3 155 [.fl o] m (.fl (fsqrt o)) m := by
  refine COk_quiet Tryz.f155 Tryz.func155 (by kernel_rfl) rfl ?_
  (conv => whnf); repeat (refine ⟨_, _, sqrt_ok _ _, ?_⟩; conv => whnf)
  exact ⟨rfl, [], by simp⟩
theorem rlength_ok (a : W) (x : List Blk) : COk Tryz.prog 3 76 [a.v] (GG x) (F (lenF a)) (GG x) := by
  refine lift ?_ rfl x
  have h := rthree_ok (fmul_lt' (some a.x) (some a.x)) (fmul_lt' (some a.y) (some a.y)) (fmul_lt' (some a.z) (some a.z))
  have h2 := rsqrt_ok (some (threeO (fmul (some a.x) (some a.x)) (fmul (some a.y) (some a.y)) (fmul (some a.z) (some a.z))))
  have h3 := rcanon_ok (fsqrt_lt (some (threeO (fmul (some a.x) (some a.x)) (fmul (some a.y) (some a.y)) (fmul (some a.z) (some a.z)))))
  refine COk_quiet Tryz.f76 Tryz.func76 (by kernel_rfl) rfl ?_
  (conv => whnf); repeat ((first | refine ⟨_, _, h _, ?_⟩ | refine ⟨_, _, h2 _, ?_⟩ | refine ⟨_, _, h3 _, ?_⟩); conv => whnf)
  exact ⟨rfl, _, rfl⟩
theorem rgap_ok (a b : W) (x : List Blk) : COk Tryz.prog 3 82 [a.v, b.v] (GG x) (F (gapF a b)) (GG x) := by
  refine lift ?_ rfl x
  refine COk_quiet Tryz.f82 Tryz.func82 (by kernel_rfl) rfl ?_
  (conv => whnf); repeat ((first | refine ⟨_, _, rminus_ok _ _ _, ?_⟩ | refine ⟨_, _, rlength_ok (minusF a b) _, ?_⟩); conv => whnf)
  exact ⟨rfl, _, rfl⟩
theorem canon_0 : canonF (some 0) = 0 := canon_pos (Nat.zero_le _)
theorem runit_ok (a : W) (x : List Blk) : COk Tryz.prog 3 146 [a.v] (GG x) (unitF a).v (GG x) := by
  refine lift ?_ rfl x
  have hi := infR_eq
  have hl := rlength_ok a
  have hc := rclass_w (lenF a)
  have hz := rmade_ok (a := some 0) (b := some 0) (c := some 0) (wdF (by decide)) (wdF (by decide)) (wdF (by decide))
  rw [canon_0] at hz
  have hd := rmade_ok (fdiv_lt (some a.x) (some (lenF a))) (fdiv_lt (some a.y) (some (lenF a))) (fdiv_lt (some a.z) (some (lenF a)))
  unfold unitF
  rw [unit_test a]
  rcases len_word a with h | h
  · rw [h] at hl hc ⊢
    rw [show classR qn = 4 by unfold classR; rw [hi]; decide] at hc
    rw [if_neg (by rw [hi]; decide)]
    refine COk_quiet Tryz.f146 Tryz.func146 (by kernel_rfl) rfl ?_
    (conv => whnf); repeat ((first | refine ⟨_, _, hl _, ?_⟩ | refine ⟨_, _, hc _, ?_⟩ | refine ⟨_, _, hz _, ?_⟩); conv => whnf)
    exact ⟨rfl, _, rfl⟩
  · generalize lenF a = l at *
    have hm : l % 9223372036854775808 = l := by omega
    unfold classR at hc
    rw [hm] at hc
    by_cases h0 : l = 0
    · rw [if_neg (by simp [h0])]
      rw [if_pos h0] at hc
      refine COk_quiet Tryz.f146 Tryz.func146 (by kernel_rfl) rfl ?_
      (conv => whnf); repeat ((first | refine ⟨_, _, hl _, ?_⟩ | refine ⟨_, _, hc _, ?_⟩ | refine ⟨_, _, hz _, ?_⟩); conv => whnf)
      exact ⟨rfl, _, rfl⟩
    rw [if_neg h0] at hc
    by_cases h1 : l = infR
    · rw [if_neg (by simp [h1])]
      rw [if_neg (by omega), if_neg (by omega), if_pos h1] at hc
      refine COk_quiet Tryz.f146 Tryz.func146 (by kernel_rfl) rfl ?_
      (conv => whnf); repeat ((first | refine ⟨_, _, hl _, ?_⟩ | refine ⟨_, _, hc _, ?_⟩ | refine ⟨_, _, hz _, ?_⟩); conv => whnf)
      exact ⟨rfl, _, rfl⟩
    · rw [if_pos (by simp; omega)]
      by_cases h2 : l < 4503599627370496
      · rw [if_pos h2] at hc
        refine COk_quiet Tryz.f146 Tryz.func146 (by kernel_rfl) rfl ?_
        (conv => whnf); repeat ((first | refine ⟨_, _, hl _, ?_⟩ | refine ⟨_, _, hc _, ?_⟩ | refine ⟨_, _, hd _, ?_⟩); conv => whnf)
        exact ⟨rfl, _, rfl⟩
      · rw [if_neg h2, if_pos (by omega)] at hc
        refine COk_quiet Tryz.f146 Tryz.func146 (by kernel_rfl) rfl ?_
        (conv => whnf); repeat ((first | refine ⟨_, _, hl _, ?_⟩ | refine ⟨_, _, hc _, ?_⟩ | refine ⟨_, _, hd _, ?_⟩); conv => whnf)
        exact ⟨rfl, _, rfl⟩
end Go.Proofs.YthoofdnnfahhaaaGreatDoor
