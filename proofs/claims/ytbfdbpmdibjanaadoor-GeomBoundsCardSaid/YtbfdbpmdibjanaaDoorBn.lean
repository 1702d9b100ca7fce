/- tarnlaw08.near. No condition. -/
import Derived.Test.YtbfdbpmdibjanaaDoorBd
import Derived.Test.YtbfdbpmdibjanaaDoorH
import Derived.Test.YtbfdbpmdibjanaaDoorV
namespace Go.Proofs.YtbfdbpmdibjanaaDoor
open Go Go.Eng Ieee
set_option maxRecDepth 100000
set_option linter.unusedSimpArgs false
set_option linter.unusedVariables false
theorem order_sg (s t : Bool) {R Q : Nat} (hR : R < infR) (hQ : Q < infR) : ∃ x y : Nat, ∃ e : Int, fcmp (some (wd s R)) (some (wd t Q)) = some (compare (if s then -(x : Int) else x) (if t then -(y : Int) else y)) ∧ mg x e = vR R ∧ mg y e = vR Q := by
  have hi := infR_eq
  obtain ⟨m, i, d1, v1, _⟩ := dat_num hR s
  obtain ⟨n, j, d2, v2, _⟩ := dat_num hQ t
  have e1 := fcmp_wd s t (show R < 2 ^ 63 by omega) (show Q < 2 ^ 63 by omega)
  rw [d1, d2] at e1
  refine ⟨m <<< (i - min i j).toNat, n <<< (j - min i j).toNat, min i j, ?_, ?_, ?_⟩
  · rw [e1]
    cases s <;> cases t <;> rfl
  · rw [mg_shift _ _ _ (by omega), v1]
  · rw [mg_shift _ _ _ (by omega), v2]
theorem sg_mg (s : Bool) (x : Nat) (e : Int) : sg s (mg x e) = ((if s then -(x : Int) else x : Int) : Rat) * 2 ^ e := by
  unfold sg mg
  cases s
  · simp; rfl
  · simp only [if_true]
    rw [Rat.intCast_neg, Rat.neg_mul]
    rfl
theorem cmp_le {a b : Int} (h : a ≤ b) : (some (compare a b) == some .lt || some (compare a b) == some .eq) = true := by
  simp only [compare, compareOfLessAndEq]
  split
  · rfl
  · rw [if_pos (by omega)]; rfl
theorem cmp_ge {a b : Int} (h : b ≤ a) : (some (compare a b) == some .gt || some (compare a b) == some .eq) = true := by
  simp only [compare, compareOfLessAndEq]
  rw [if_neg (by omega)]
  split <;> rfl
theorem fle_sg (s t : Bool) {R Q : Nat} (hR : R < infR) (hQ : Q < infR) (h : sg s (vR R) ≤ sg t (vR Q)) : fle (some (wd s R)) (some (wd t Q)) = true := by
  obtain ⟨x, y, e, h1, h2, h3⟩ := order_sg s t hR hQ
  rw [← h2, ← h3, sg_mg, sg_mg] at h
  have h4 := le_of_mul (two_pos e) h
  unfold fle
  rw [h1]
  exact cmp_le (by exact_mod_cast h4)
theorem fge_sg (s t : Bool) {R Q : Nat} (hR : R < infR) (hQ : Q < infR) (h : sg t (vR Q) ≤ sg s (vR R)) : fge (some (wd s R)) (some (wd t Q)) = true := by
  obtain ⟨x, y, e, h1, h2, h3⟩ := order_sg s t hR hQ
  rw [← h2, ← h3, sg_mg, sg_mg] at h
  have h4 := le_of_mul (two_pos e) h
  unfold fge
  rw [h1]
  exact cmp_ge (by exact_mod_cast h4)
def eps50 : Nat := 4382002437431492608
theorem vR_eps : vR eps50 = 8 * u53 := by
  have e : vR eps50 = mg (2 ^ 52) (-102) := by
    unfold vR
    rw [if_neg (by decide)]
    have e1 : 2 ^ 52 + eps50 % 2 ^ 52 = 2 ^ 52 := by decide
    have e2 : eps50 / 2 ^ 52 - 1 = 972 := by decide
    rw [e1, e2]
    congr 1
  rw [e, u53_is]
  have h := two_add (-102) 102
  rw [show (-102 : Int) + 102 = 0 by decide, two_0, show (2 : Rat) ^ (102 : Int) = 5070602400912917605986812821504 from (two_nat 102).trans rfl] at h
  unfold mg
  rw [show ((2 ^ 52 : Nat) : Rat) = 4503599627370496 from rfl]
  grind
theorem raw_ne {o : Option Nat} {r : Bool} {D : Nat} (hD : D < infR) (h0 : D ≠ 0) (h : canonF o = cw r D) : o = some (wd r D) := by
  have hi := infR_eq
  have hw : wd r D = D ∨ wd r D = D + 2 ^ 63 ∨ wd r D = 2 ^ 63 + D := by
    cases r
    · exact .inl rfl
    · first | exact .inr (.inl rfl) | exact .inr (.inr rfl)
  have hq : qn ≠ wd r D := by
    have : qn = 9221120237041090561 := rfl
    omega
  have hz : 0 ≠ wd r D := by omega
  rw [cw, if_neg h0] at h
  unfold canonF at h
  split at h
  · exact absurd h hq
  · split at h
    · exact absurd h hz
    · cases o with
      | none => rename_i h1 _; exact absurd rfl h1
      | some w => exact congrArg some h
theorem zero_le_eps {w : Nat} (h : feq (some w) (some 0) = true) : fle (some w) (some eps50) = true ∧ fge (some w) (some (wd true eps50)) = true := by
  have e1 : f64.read 0 = .number false 0 f64.leastPlace := rfl
  have hi := infR_eq
  have e2 := read_wd false (R := eps50) (by decide)
  have e3 := read_wd true (R := eps50) (by decide)
  have d2 : dat false eps50 = .number false (2 ^ 52) (-102) := by decide +kernel
  have d3 : dat true eps50 = .number true (2 ^ 52) (-102) := by decide +kernel
  rw [d2] at e2
  rw [d3] at e3
  have h : ((f64.read w).order (f64.read 0) == some .eq) = true := h
  show (((f64.read w).order (f64.read (wd false eps50)) == some .lt || (f64.read w).order (f64.read (wd false eps50)) == some .eq)) = true ∧ (((f64.read w).order (f64.read (wd true eps50)) == some .gt || (f64.read w).order (f64.read (wd true eps50)) == some .eq)) = true
  rw [e1] at h
  rw [e2, e3]
  cases hr : f64.read w with
  | nan a b => rw [hr] at h; exact nomatch h
  | infinity s => rw [hr] at h; cases s <;> exact nomatch h
  | number s m i =>
    rw [hr] at h
    have h : (some (compare (signed s m (i - min i f64.leastPlace).toNat) (signed false 0 (f64.leastPlace - min i f64.leastPlace).toNat)) == some .eq) = true := h
    have z0 : signed false 0 (f64.leastPlace - min i f64.leastPlace).toNat = 0 := by
      unfold signed
      rw [if_neg (by decide), Nat.zero_shiftLeft]; rfl
    rw [z0] at h
    have z1 : signed s m (i - min i f64.leastPlace).toNat = 0 := by
      simp only [compare, compareOfLessAndEq] at h
      split at h
      · exact nomatch h
      · split at h
        · assumption
        · exact nomatch h
    have z2 : m = 0 := by
      unfold signed at z1
      have : m <<< (i - min i f64.leastPlace).toNat = 0 := by
        cases s
        · rw [if_neg (by decide)] at z1; exact_mod_cast z1
        · rw [if_pos rfl] at z1; omega
      rw [Nat.shiftLeft_eq] at this
      rcases Nat.mul_eq_zero.1 this with h | h
      · exact h
      · exact absurd h (Nat.ne_of_gt (Nat.two_pow_pos _))
    subst z2
    have z3 : ∀ k, signed s 0 k = 0 := by
      intro k
      unfold signed
      rw [Nat.zero_shiftLeft]
      cases s <;> rfl
    have pos : ∀ k : Nat, 0 < ((2 ^ 52) <<< k : Nat) := by
      intro k
      rw [Nat.shiftLeft_eq]
      exact Nat.mul_pos (by decide) (Nat.two_pow_pos _)
    constructor
    · show (some (compare (signed s 0 (i - min i (-102)).toNat) (signed false (2 ^ 52) (-102 - min i (-102)).toNat)) == some .lt || some (compare (signed s 0 (i - min i (-102)).toNat) (signed false (2 ^ 52) (-102 - min i (-102)).toNat)) == some .eq) = true
      refine cmp_le ?_
      rw [z3]
      unfold signed
      rw [if_neg (by decide)]
      exact Int.natCast_nonneg _
    · show (some (compare (signed s 0 (i - min i (-102)).toNat) (signed true (2 ^ 52) (-102 - min i (-102)).toNat)) == some .gt || some (compare (signed s 0 (i - min i (-102)).toNat) (signed true (2 ^ 52) (-102 - min i (-102)).toNat)) == some .eq) = true
      refine cmp_ge ?_
      rw [z3]
      unfold signed
      rw [if_pos rfl]
      exact Int.neg_nonpos_of_nonneg (Int.natCast_nonneg _)
theorem raw_eq {o : Option Nat} (h : canonF o = 0) : fle o (some eps50) = true ∧ fge o (some (wd true eps50)) = true := by
  unfold canonF at h
  split at h
  · exact nomatch h
  · split at h
    · rename_i h2
      cases o with
      | none => exact nomatch h2
      | some w => exact zero_le_eps h2
    · rename_i h1 h2
      cases o with
      | none => exact absurd rfl h1
      | some w =>
        have h : w = 0 := h
        subst h
        exact absurd (by decide) h2
theorem near_raw {N : Nat} (hN : N < infR) (nz : N ≠ 0) (h1 : vR N ≤ 1 + cU) (h2 : 1 - cU ≤ vR N) :
    fle (fsub (some N) (some oneB)) (some eps50) = true ∧ fge (fsub (some N) (some oneB)) (some (wd true eps50)) = true := by
  have hi := infR_eq
  have e3 := u53_is
  have hc : cU = 61 / 8 * u53 := rfl
  have p22 := two_le (show (-22 : Int) ≤ -1 by decide)
  have hm1 : (2 : Rat) ^ (-1 : Int) = 1 / 2 := by
    have h := two_add (-1) 1
    rw [show (-1 : Int) + 1 = 0 by decide, two_0, two_1] at h
    grind
  rw [hm1] at p22
  have fN : Fin22 N := ⟨hN, .inr (by grind), by grind⟩
  have f1 : Fin22 oneB := ⟨by decide, .inr (by rw [vR_one]; grind), by rw [vR_one]; grind⟩
  obtain ⟨r, D, k1, k2⟩ := sub_near false false fN f1
  rw [show cw false N = N by rw [cw, if_neg nz]; rfl, show cw false oneB = oneB by decide] at k1
  rcases k2 with ⟨_, rfl⟩ | ⟨a, k3, _, _, n1, n2, n3, _⟩
  · exact raw_eq (by rw [k1]; rfl)
  · have hs : sg false (vR N) - sg false (vR oneB) = vR N - 1 := by rw [vR_one]; rfl
    rw [hs] at k3
    have ha : a ≤ cU := by rcases k3 with rfl | rfl <;> grind
    have hD : vR D ≤ 8 * u53 := by
      have t := le_mul (show (0 : Rat) ≤ 1 + u53 by grind) ha
      have t2 : cU * (1 + u53) ≤ 8 * u53 := by rw [hc, e3]; decide +kernel
      grind
    have h0 := vR_nonneg n1
    rw [raw_ne n1 n2 k1]
    constructor
    · refine fle_sg r false (Q := eps50) n1 (by decide) ?_
      rw [vR_eps]
      unfold sg
      cases r
      · exact hD
      · simp only [if_true, Bool.false_eq_true, if_false]; grind
    · refine fge_sg r true (Q := eps50) n1 (by decide) ?_
      rw [vR_eps]
      unfold sg
      cases r
      · simp only [if_true, Bool.false_eq_true, if_false]; grind
      · simp only [if_true]; grind
theorem length_t (a : W) {m : List Blk} (h : Top m) : COk Tryd.prog 3 52 [a.v] m (F (lenF a)) m := by
  obtain ⟨x, rfl⟩ := h
  exact length_ok a x
theorem near_w (a : W) {M : List Blk} (hm : Top M) {N : Nat} (e : lenF a = N) (hN : N < infR) (nz : N ≠ 0) (h1 : vR N ≤ 1 + cU) (h2 : 1 - cU ≤ vR N) : COk Tryd.prog 3 23 [a.v] M (Bo true) M := by
  obtain ⟨k1, k2⟩ := near_raw hN nz h1 h2
  have hl := fun m (h : Top m) => length_t a h
  rw [e] at hl
  have k1 : fle (fsub (some N) (some 4607182418800017408)) (some 4382002437431492608) = true := k1
  have k2 : fge (fsub (some N) (some 4607182418800017408)) (some 13605374474286268416) = true := k2
  refine COk_quiet Tryd.f23 Tryd.func23 (by kernel_rfl) rfl ?_
  (conv => whnf); repeat (first | (refine ⟨_, _, hl _ (hm.app _), ?_⟩; conv => whnf) | (refine ⟨_, hl _ (hm.app _), ?_⟩; conv => whnf) | (rw [k1]; conv => whnf) | (rw [k2]; conv => whnf) | (refine br_d (by omega) ?_; conv => whnf) | (refine br_nd (by omega) ?_; conv => whnf) | (refine br_eq (by omega) ?_; conv => whnf) | (refine br_neq (by omega) ?_; conv => whnf) | (refine br_ne (by omega) ?_; conv => whnf) | (refine br_no (bo_eqn (by omega)) ?_; conv => whnf) | (refine setB_app ?_; conv => whnf) | (refine setB_app0 ?_; conv => whnf) | (rw [getB_app]; conv => whnf) | (rw [getB_app0]; conv => whnf) | (refine addB_f8 ?_; conv => whnf) | (refine addB_f7 ?_; conv => whnf) | (refine addB_f6 ?_; conv => whnf) | (refine addB_f5 ?_; conv => whnf) | (refine addB_f4 ?_; conv => whnf) | (refine addB_f3 ?_; conv => whnf) | (refine addB_f2 ?_; conv => whnf) | (refine addB_f1 ?_; conv => whnf) | (refine addB_f0 ?_; conv => whnf))
  exact ⟨rfl, _, rfl⟩
end Go.Proofs.YtbfdbpmdibjanaaDoor
