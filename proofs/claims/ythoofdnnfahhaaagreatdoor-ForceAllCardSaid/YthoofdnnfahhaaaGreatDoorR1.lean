/- The reference's bits, whole numbers as floats, sums of three, vectors. No condition. -/
import Derived.Test.YthoofdnnfahhaaaGreatDoorRv
namespace Go.Proofs.YthoofdnnfahhaaaGreatDoor
open Go Go.Eng Ieee
set_option maxRecDepth 100000
set_option linter.unusedSimpArgs false
set_option linter.unusedVariables false

abbrev Wd (o : Option Nat) : Prop := ∀ b, o = some b → b < 18446744073709551616
theorem wdF {b : Nat} (h : b < 18446744073709551616) : Wd (some b) := fun c e => by injection e with e; omega
theorem map_lt {d : Option Ieee.Datum} : Wd (d.map f64.write) := fun b h => by
  cases d with
  | none => exact nomatch h
  | some d => injection h with h; subst h; exact write_lt d
theorem op_lt {f : Nat → Nat → Option Nat} (h : ∀ a b, Wd (f a b)) (x y : Option Nat) : Wd (fop2 f x y) := by
  cases x with
  | none => exact fun b h => nomatch h
  | some a => cases y with
    | none => exact fun b h => nomatch h
    | some b => exact h a b
theorem fadd_lt (x y : Option Nat) : Wd (fadd x y) := op_lt (fun a b => map_lt) x y
theorem fsub_lt (x y : Option Nat) : Wd (fsub x y) := op_lt (fun a b => map_lt) x y
theorem fmul_lt' (x y : Option Nat) : Wd (fmul x y) := op_lt (fun a b => map_lt) x y
theorem fdiv_lt (x y : Option Nat) : Wd (fdiv x y) := op_lt (fun a b => map_lt) x y
theorem rmag_ok (b : Nat) (m : List Blk) : COk Tryz.prog 3 206 [F b] m (U ((b % 9223372036854775808 : Nat) : Int)) m := by
  refine COk_quiet Tryz.f206 Tryz.func206 (by kernel_rfl) rfl ?_
  (conv => whnf); repeat (refine ⟨_, _, bits_ok _ _, ?_⟩; conv => whnf)
  exact ⟨rfl, [], by simp⟩
theorem rbelow_ok (b : Nat) (m : List Blk) : COk Tryz.prog 3 188 [F b] m (Bo (decide ((b : Int) ≥ 9223372036854775808))) m := by
  refine COk_quiet Tryz.f188 Tryz.func188 (by kernel_rfl) rfl ?_
  (conv => whnf); repeat (refine ⟨_, _, bits_ok _ _, ?_⟩; conv => whnf)
  exact ⟨rfl, [], by simp⟩
theorem rnoneB_ok (b : Nat) (m : List Blk) : COk Tryz.prog 3 184 [F b] m (Bo (decide (((b % 9223372036854775808 : Nat) : Int) > 9218868437227405312))) m := by
  refine COk_quiet Tryz.f184 Tryz.func184 (by kernel_rfl) rfl ?_
  (conv => whnf); repeat (refine ⟨_, _, rmag_ok _ _, ?_⟩; conv => whnf)
  exact ⟨rfl, [], by simp⟩
theorem rnone_w {b : Nat} (hb : b < 18446744073709551616) (m : List Blk) : COk Tryz.prog 3 184 [F b] m (Bo (fne (some b) (some b))) m := by
  have h := rnoneB_ok b m
  have e : decide (((b % 9223372036854775808 : Nat) : Int) > 9218868437227405312) = fne (some b) (some b) := by
    rw [none_is hb, infR_eq]
    exact decide_eq_decide.2 (by omega)
  rwa [e] at h
theorem fne_nan {b : Nat} (h : nanB b) : fne (some b) (some b) = true := by
  unfold fne; rw [(nan_cmp h _).1]; rfl
theorem rnone_ok {o : Option Nat} (hb : Wd o) (m : List Blk) : COk Tryz.prog 3 184 [.fl o] m (Bo (fne o o)) m := by
  cases o with
  | some b => exact rnone_w (hb b rfl) m
  | none =>
    refine COk_bits [] (bs := []) (fun b hn => ?_)
    have h := rnone_w (b := b) (by have := hn.1; omega) m
    rw [fne_nan hn] at h
    exact h
theorem rfrom_ok (z : Int) (m : List Blk) : COk Tryz.prog 3 195 [U z] m (F z.toNat) m := by
  have h := frombitsZ_ok z m
  refine COk_quiet Tryz.f195 Tryz.func195 (by kernel_rfl) rfl ?_
  (conv => whnf); repeat (refine ⟨_, _, h, ?_⟩; conv => whnf)
  exact ⟨rfl, [], by simp⟩
theorem rquiet_ok (m : List Blk) : COk Tryz.prog 3 185 [] m (F qn) m := by
  have h := rfrom_ok 9221120237041090561 m
  refine COk_quiet Tryz.f185 Tryz.func185 (by kernel_rfl) rfl ?_
  (conv => whnf); repeat (refine ⟨_, _, h, ?_⟩; conv => whnf)
  exact ⟨rfl, [], by simp⟩
theorem rclass_w (b : Nat) (m : List Blk) : COk Tryz.prog 3 192 [F b] m (I (classR b)) m := by
  have hi := infR_eq
  have h := rmag_ok b
  unfold classR
  generalize b % 9223372036854775808 = p at *
  obtain ⟨P, hP⟩ : ∃ P : Int, P = (p : Int) := ⟨_, rfl⟩
  rw [← hP] at h
  by_cases h0 : p = 0
  · rw [if_pos h0]
    refine COk_quiet Tryz.f192 Tryz.func192 (by kernel_rfl) rfl ?_
    (conv => whnf); repeat ((first | refine ⟨_, _, h _, ?_⟩ | refine br_d (by omega) ?_); conv => whnf)
    exact ⟨rfl, [], by simp⟩
  rw [if_neg h0]
  by_cases h1 : p < 4503599627370496
  · rw [if_pos h1]
    refine COk_quiet Tryz.f192 Tryz.func192 (by kernel_rfl) rfl ?_
    (conv => whnf); repeat ((first | refine ⟨_, _, h _, ?_⟩ | refine br_d (by omega) ?_ | refine br_nd (by omega) ?_); conv => whnf)
    exact ⟨rfl, [], by simp⟩
  rw [if_neg h1]
  by_cases h2 : p < infR
  · rw [if_pos h2]
    refine COk_quiet Tryz.f192 Tryz.func192 (by kernel_rfl) rfl ?_
    (conv => whnf); repeat ((first | refine ⟨_, _, h _, ?_⟩ | refine br_d (by omega) ?_ | refine br_nd (by omega) ?_); conv => whnf)
    exact ⟨rfl, [], by simp⟩
  rw [if_neg h2]
  by_cases h3 : p = infR
  · rw [if_pos h3]
    refine COk_quiet Tryz.f192 Tryz.func192 (by kernel_rfl) rfl ?_
    (conv => whnf); repeat ((first | refine ⟨_, _, h _, ?_⟩ | refine br_d (by omega) ?_ | refine br_nd (by omega) ?_); conv => whnf)
    exact ⟨rfl, [], by simp⟩
  · rw [if_neg h3]
    refine COk_quiet Tryz.f192 Tryz.func192 (by kernel_rfl) rfl ?_
    (conv => whnf); repeat ((first | refine ⟨_, _, h _, ?_⟩ | refine br_nd (by omega) ?_); conv => whnf)
    exact ⟨rfl, [], by simp⟩
theorem rcanon_w {b : Nat} (hb : b < 18446744073709551616) (m : List Blk) : COk Tryz.prog 3 154 [F b] m (F (canonF (some b))) m := by
  have hn := rnone_w hb
  have hm := rmag_ok b
  rw [canonR_is hb]
  unfold canonR
  rw [none_is hb] at hn
  by_cases h1 : infR < b % 9223372036854775808
  · rw [if_pos h1]
    rw [decide_eq_true h1] at hn
    refine COk_quiet Tryz.f154 Tryz.func154 (by kernel_rfl) rfl ?_
    (conv => whnf); repeat ((first | refine ⟨_, _, hn _, ?_⟩ | refine ⟨_, _, rquiet_ok _, ?_⟩); conv => whnf)
    exact ⟨rfl, [], by simp⟩
  rw [if_neg h1]
  rw [decide_eq_false h1] at hn
  generalize b % 9223372036854775808 = p at *
  have hz := rfrom_ok 0
  by_cases h0 : p = 0
  · rw [if_pos h0]
    refine COk_quiet Tryz.f154 Tryz.func154 (by kernel_rfl) rfl ?_
    (conv => whnf); repeat ((first | refine ⟨_, _, hn _, ?_⟩ | refine ⟨_, _, hm _, ?_⟩ | refine br_yes (beq_iff_eq.2 (by omega)) ?_ | refine ⟨_, _, hz _, ?_⟩); conv => whnf)
    exact ⟨rfl, [], by simp⟩
  · rw [if_neg h0]
    have n0 : (((p : Nat) : Int) == 0) = false := beq_eq_false_iff_ne.2 (by omega)
    refine COk_quiet Tryz.f154 Tryz.func154 (by kernel_rfl) rfl ?_
    (conv => whnf); repeat ((first | refine ⟨_, _, hn _, ?_⟩ | refine ⟨_, _, hm _, ?_⟩ | refine br_no n0 ?_); conv => whnf)
    exact ⟨rfl, [], by simp⟩
theorem rcanon_ok {o : Option Nat} (hb : Wd o) (m : List Blk) : COk Tryz.prog 3 154 [.fl o] m (F (canonF o)) m := by
  cases o with
  | some b => exact rcanon_w (hb b rfl) m
  | none =>
    refine COk_bits [] (bs := []) (fun b hn => ?_)
    have h := rcanon_w (b := b) (by have := hn.1; omega) m
    have e : canonF (some b) = canonF none := by unfold canonF; rw [fne_nan hn]; rfl
    rwa [e] at h
theorem rorder_ok (a b : Nat) (m : List Blk) : COk Tryz.prog 3 186 [F a, F b] m (I (orderR a b)) m := by
  have ha := rbelow_ok a
  have hb := rbelow_ok b
  unfold orderR
  by_cases h0 : a = b
  · subst h0
    rw [if_pos rfl]
    refine COk_quiet Tryz.f186 Tryz.func186 (by kernel_rfl) rfl ?_
    (conv => whnf); repeat ((first | refine ⟨_, _, bits_ok _ _, ?_⟩ | refine br_yes (beq_iff_eq.2 rfl) ?_); conv => whnf)
    exact ⟨rfl, [], by simp⟩
  have n0 : (((a : Nat) : Int) == (b : Int)) = false := beq_eq_false_iff_ne.2 (by omega)
  rw [if_neg h0]
  by_cases h1 : 9223372036854775808 ≤ a
  · rw [decide_eq_true (show (a : Int) ≥ 9223372036854775808 by omega)] at ha
    by_cases h2 : 9223372036854775808 ≤ b
    · rw [decide_eq_true (show (b : Int) ≥ 9223372036854775808 by omega)] at hb
      rw [if_pos ⟨h1, h2⟩]
      by_cases h3 : b < a
      · rw [if_pos h3]
        refine COk_quiet Tryz.f186 Tryz.func186 (by kernel_rfl) rfl ?_
        (conv => whnf); repeat ((first | refine ⟨_, _, bits_ok _ _, ?_⟩ | refine br_no n0 ?_ | refine ⟨_, _, ha _, ?_⟩ | refine ⟨_, _, hb _, ?_⟩ | refine br_d (by omega) ?_); conv => whnf)
        exact ⟨rfl, [], by simp⟩
      · rw [if_neg h3]
        refine COk_quiet Tryz.f186 Tryz.func186 (by kernel_rfl) rfl ?_
        (conv => whnf); repeat ((first | refine ⟨_, _, bits_ok _ _, ?_⟩ | refine br_no n0 ?_ | refine ⟨_, _, ha _, ?_⟩ | refine ⟨_, _, hb _, ?_⟩ | refine br_nd (by omega) ?_); conv => whnf)
        exact ⟨rfl, [], by simp⟩
    · rw [decide_eq_false (show ¬ (b : Int) ≥ 9223372036854775808 by omega)] at hb
      rw [if_neg (by omega), if_pos h1]
      refine COk_quiet Tryz.f186 Tryz.func186 (by kernel_rfl) rfl ?_
      (conv => whnf); repeat ((first | refine ⟨_, _, bits_ok _ _, ?_⟩ | refine br_no n0 ?_ | refine ⟨_, _, ha _, ?_⟩ | refine ⟨_, _, hb _, ?_⟩); conv => whnf)
      exact ⟨rfl, [], by simp⟩
  · rw [decide_eq_false (show ¬ (a : Int) ≥ 9223372036854775808 by omega)] at ha
    rw [if_neg (by omega), if_neg h1]
    by_cases h2 : 9223372036854775808 ≤ b
    · rw [decide_eq_true (show (b : Int) ≥ 9223372036854775808 by omega)] at hb
      rw [if_pos h2]
      refine COk_quiet Tryz.f186 Tryz.func186 (by kernel_rfl) rfl ?_
      (conv => whnf); repeat ((first | refine ⟨_, _, bits_ok _ _, ?_⟩ | refine br_no n0 ?_ | refine ⟨_, _, ha _, ?_⟩ | refine ⟨_, _, hb _, ?_⟩); conv => whnf)
      exact ⟨rfl, [], by simp⟩
    · rw [decide_eq_false (show ¬ (b : Int) ≥ 9223372036854775808 by omega)] at hb
      rw [if_neg h2]
      by_cases h3 : a < b
      · rw [if_pos h3]
        refine COk_quiet Tryz.f186 Tryz.func186 (by kernel_rfl) rfl ?_
        (conv => whnf); repeat ((first | refine ⟨_, _, bits_ok _ _, ?_⟩ | refine br_no n0 ?_ | refine ⟨_, _, ha _, ?_⟩ | refine ⟨_, _, hb _, ?_⟩ | refine br_d (by omega) ?_); conv => whnf)
        exact ⟨rfl, [], by simp⟩
      · rw [if_neg h3]
        refine COk_quiet Tryz.f186 Tryz.func186 (by kernel_rfl) rfl ?_
        (conv => whnf); repeat ((first | refine ⟨_, _, bits_ok _ _, ?_⟩ | refine br_no n0 ?_ | refine ⟨_, _, ha _, ?_⟩ | refine ⟨_, _, hb _, ?_⟩ | refine br_nd (by omega) ?_); conv => whnf)
        exact ⟨rfl, [], by simp⟩
end Go.Proofs.YthoofdnnfahhaaaGreatDoor
