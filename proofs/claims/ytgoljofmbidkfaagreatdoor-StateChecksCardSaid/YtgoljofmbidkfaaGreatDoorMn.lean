/- The least of two floats by their place. Plain. -/
import Derived.Test.YtgoljofmbidkfaaGreatDoorRc
namespace Go.Proofs.YtgoljofmbidkfaaGreatDoor
open Go Go.Eng
set_option maxRecDepth 100000
set_option linter.unusedSimpArgs false
set_option linter.unusedVariables false

/-- Where a number stands among the words. -/
def plI (s : Bool) (R : Nat) : Int := if s then 9223372036854775807 - (R : Int) else 9223372036854775808 + R
theorem infR_lt : infR < 9223372036854775808 := by decide
theorem placeW_wd (s : Bool) {R : Nat} (h : R ≤ infR) : placeW (wd s R) = plI s R := by
  have h1 := infR_lt
  cases s with
  | false =>
    rw [wd_false, placeW, if_neg (by omega)]
    unfold bitV plI
    simp only [Bool.false_eq_true, if_false]
    have e : (BitVec.ofInt IntKind.u64.bits (R : Int) ||| BitVec.ofInt IntKind.u64.bits 9223372036854775808).toNat = 9223372036854775808 + R := by
      show (BitVec.ofInt 64 (R : Int) ||| BitVec.ofInt 64 9223372036854775808).toNat = _
      rw [BitVec.toNat_or, BitVec.toNat_ofInt, BitVec.toNat_ofInt]
      have a1 : ((R : Int) % ((2 ^ 64 : Nat) : Int)).toNat = R := by omega
      have a2 : ((9223372036854775808 : Int) % ((2 ^ 64 : Nat) : Int)).toNat = 2 ^ 63 * 1 := by decide
      rw [a1, a2, Nat.or_comm, ← Nat.two_pow_add_eq_or_of_lt (by omega)]
    rw [e, wrap_u (by omega) (by omega)]
    omega
  | true =>
    rw [wd_true, placeW, if_pos (by omega)]
    unfold bitV plI
    simp only [if_true]
    have e : (BitVec.ofInt IntKind.u64.bits IntKind.u64.max ^^^ BitVec.ofInt IntKind.u64.bits ((2 ^ 63 + R : Nat) : Int)).toNat = 9223372036854775807 - R := by
      show (BitVec.ofInt 64 18446744073709551615 ^^^ BitVec.ofInt 64 ((2 ^ 63 + R : Nat) : Int)).toNat = _
      rw [show BitVec.ofInt 64 18446744073709551615 = BitVec.allOnes 64 by decide, BitVec.allOnes_xor, BitVec.toNat_not, BitVec.toNat_ofInt]
      have a1 : (((2 ^ 63 + R : Nat) : Int) % ((2 ^ 64 : Nat) : Int)).toNat = 2 ^ 63 + R := by omega
      rw [a1]; omega
    rw [e, wrap_u (by omega) (by omega)]
    omega
theorem minO_num {s t : Bool} {R Q : Nat} (hR : R ≤ infR) (hQ : Q ≤ infR) : ∃ u T, T ≤ infR ∧ minO (some (wd s R)) (some (wd t Q)) = wd u T ∧ rk u T ≤ rk s R ∧ rk u T ≤ rk t Q ∧ ((u = s ∧ T = R) ∨ (u = t ∧ T = Q)) := by
  have n1 : ¬ (fne (some (wd s R)) (some (wd s R)) = true ∨ fne (some (wd t Q)) (some (wd t Q)) = true) := by
    rw [fne_rk _ _ hR hR, fne_rk _ _ hQ hQ]; simp
  have h1 := infR_lt
  have ho : orderW (wd s R) (wd t Q) = cmpI (plI s R) (plI t Q) := by unfold orderW; rw [placeW_wd s hR, placeW_wd t hQ]
  have hm : minO (some (wd s R)) (some (wd t Q)) = if orderW (wd s R) (wd t Q) > 0 then wd t Q else wd s R := by
    unfold minO
    simp only [if_neg n1]
  rw [hm, ho]
  by_cases h : plI t Q < plI s R
  · have h2 : cmpI (plI s R) (plI t Q) > 0 := by
      unfold cmpI
      rw [if_neg (by omega), if_pos h]; decide
    rw [if_pos h2]
    refine ⟨t, Q, hQ, rfl, ?_, Int.le_refl _, .inr ⟨rfl, rfl⟩⟩
    unfold plI at h; unfold rk
    cases s <;> cases t <;> simp at h ⊢ <;> omega
  · have h2 : ¬ cmpI (plI s R) (plI t Q) > 0 := by
      unfold cmpI
      rw [if_neg (c := plI s R > plI t Q) h]
      split <;> decide
    rw [if_neg h2]
    refine ⟨s, R, hR, rfl, Int.le_refl _, ?_, .inl ⟨rfl, rfl⟩⟩
    unfold plI at h; unfold rk
    cases s <;> cases t <;> simp at h ⊢ <;> omega
theorem rk_0 : rk false 0 = 0 := rfl
theorem gt_no (o : Option Nat) : fgt none o = false := by cases o <;> rfl
theorem gt_0 : fgt (some 0) (some 0) = false := by decide +kernel
theorem qn_0 : fgt (some qn) (some 0) = false := by decide +kernel
/-- What a depth over an edge stands to: the slant and the gate. -/
theorem gate_plain {a g : Option Nat} (ha : a = none ∨ Num a) (hg : g = none ∨ Num g) :
    (fgt (some (posF (minO a g))) (some 0) = true → fgt (some (posF (minO a g))) a = false ∧ fgt (some (posF (minO a g))) g = false ∧ (fne (some (posF (minO a g))) a = false ∨ fne (some (posF (minO a g))) g = false)) ∧
    (fgt (some (posF (minO a g))) (some 0) = false → fgt a (some 0) = false ∨ fgt g (some 0) = false) := by
  rcases ha with rfl | ⟨s, R, hR, rfl⟩
  · have e : minO none g = qn := by cases g <;> rfl
    rw [e, posF, qn_0, if_neg (by decide), gt_0]
    exact ⟨fun h => (by cases h), fun _ => .inl (gt_no _)⟩
  rcases hg with rfl | ⟨t, Q, hQ, rfl⟩
  · have e : minO (some (wd s R)) none = qn := rfl
    rw [e, posF, qn_0, if_neg (by decide), gt_0]
    exact ⟨fun h => (by cases h), fun _ => .inr (gt_no _)⟩
  obtain ⟨u, T, hT, e, k1, k2, hor⟩ := minO_num (s := s) (t := t) hR hQ
  rw [e]
  have z0 : fgt (some (wd u T)) (some 0) = decide (rk false 0 < rk u T) := fgt_rk (s := u) (t := false) hT (Nat.zero_le _)
  unfold posF
  by_cases hp : rk false 0 < rk u T
  · rw [z0, if_pos (decide_eq_true hp), z0]
    refine ⟨fun _ => ⟨?_, ?_, ?_⟩, fun h => ?_⟩
    · rw [fgt_rk _ _ hT hR]; exact decide_eq_false (by omega)
    · rw [fgt_rk _ _ hT hQ]; exact decide_eq_false (by omega)
    · rw [fne_rk _ _ hT hR, fne_rk _ _ hT hQ]
      rcases hor with ⟨rfl, rfl⟩ | ⟨rfl, rfl⟩
      · exact .inl (decide_eq_false (fun k => k rfl))
      · exact .inr (decide_eq_false (fun k => k rfl))
    · rw [decide_eq_true hp] at h; cases h
  · rw [z0, if_neg (by rw [decide_eq_false hp]; decide), gt_0]
    refine ⟨fun h => (by cases h), fun _ => ?_⟩
    have z1 : fgt (some (wd s R)) (some 0) = decide (rk false 0 < rk s R) := fgt_rk (s := s) (t := false) hR (Nat.zero_le _)
    have z2 : fgt (some (wd t Q)) (some 0) = decide (rk false 0 < rk t Q) := fgt_rk (s := t) (t := false) hQ (Nat.zero_le _)
    rw [z1, z2]
    rcases hor with ⟨rfl, rfl⟩ | ⟨rfl, rfl⟩
    · exact .inl (decide_eq_false hp)
    · exact .inr (decide_eq_false hp)
end Go.Proofs.YtgoljofmbidkfaaGreatDoor
