/- Turns of a net, in plain numbers: cells beside one another stay so. No condition. -/
import Derived.Test.YtemaeembndobaaaGreatDoorTu
import Derived.Test.YtemaeembndobaaaGreatDoorZa
import Derived.Test.YtemaeembndobaaaGreatDoorFm
import Derived.Test.YtemaeembndobaaaGreatDoorM
import Derived.Test.YtemaeembndobaaaGreatDoorU
namespace Go.Proofs.YtemaeembndobaaaGreatDoor
open Go Go.Eng
set_option maxRecDepth 100000
set_option linter.unusedSimpArgs false
set_option linter.unusedVariables false

/-- Does a turn by q sides turn about what runs along side s? -/
def flq (s q : Nat) : Bool := if q = 0 then false else if q = 1 then s % 2 == 0 else if q = 2 then true else s % 2 == 1
theorem four {s : Nat} (h : s < 4) : s = 0 ∨ s = 1 ∨ s = 2 ∨ s = 3 := by omega
theorem al_rot {n i j s q : Nat} (hi : i < n) (hj : j < n) (hs : s < 4) (hq : q < 4) : alongS (rotI n q i j) (rotJ n q i j) ((s + q) % 4) = flipK n (alongS i j s) (flq s q) := by
  obtain rfl | rfl | rfl | rfl := four hs <;> obtain rfl | rfl | rfl | rfl := four hq <;> rfl
theorem put_rot {n k b q : Nat} (hk : k < n) (hb : b < 4) (hq : q < 4) : (rotI n q (putS n k b).1 (putS n k b).2, rotJ n q (putS n k b).1 (putS n k b).2) = putS n (flipK n k (flq b q)) ((b + q) % 4) := by
  obtain rfl | rfl | rfl | rfl := four hb <;> obtain rfl | rfl | rfl | rfl := four hq <;> (refine Prod.ext ?_ ?_ <;> simp only [rotI, rotJ, putS, flipK, flq, if_true, if_false, Nat.reduceEqDiff, Nat.reduceAdd, Nat.reduceMod, reduceIte, Nat.reduceBEq, beq_self_eq_true] <;> omega)
theorem flip_two {n k : Nat} (hk : k < n) (a b : Bool) : flipK n (flipK n k a) b = flipK n k (a ^^ b) := by
  cases a <;> cases b <;> simp [flipK] <;> omega
theorem turn_nbT : ∀ t, t < 24 → ∀ f, f < 6 → ∀ s, s < 4 → nbT (fa t f) ((s + qu t f) % 4) = (fa t (nbT f s).1, ((nbT f s).2.1 + qu t (nbT f s).1) % 4, ((nbT f s).2.2 ^^ flq s (qu t f)) ^^ flq (nbT f s).2.1 (qu t (nbT f s).1)) := by decide +kernel
theorem nbT_bd : ∀ f, f < 6 → ∀ s, s < 4 → (nbT f s).1 < 6 ∧ (nbT f s).2.1 < 4 := by decide
theorem atE_rot {n i j s q : Nat} (hi : i < n) (hj : j < n) (hs : s < 4) (hq : q < 4) : atE n (rotI n q i j) (rotJ n q i j) ((s + q) % 4) ↔ atE n i j s := by
  obtain rfl | rfl | rfl | rfl := four hs <;> obtain rfl | rfl | rfl | rfl := four hq <;>
    (simp only [atE, rotI, rotJ, if_true, if_false, Nat.reduceEqDiff, Nat.reduceAdd, Nat.reduceMod, reduceIte] <;> omega)
theorem nb_in {n f i j s : Nat} (hi : i < n) (hj : j < n) (hs : s < 4) (h : ¬ atE n i j s) : nb n f i j s = (f, (if s = 0 then i + 1 else if s = 2 then i - 1 else i), (if s = 1 then j + 1 else if s = 3 then j - 1 else j), (s + 2) % 4) := by
  obtain rfl | rfl | rfl | rfl := four hs
  · have h : ¬ i + 1 = n := h
    show (if i + 1 < n then _ else _) = _
    rw [if_pos (by omega)]; rfl
  · have h : ¬ j + 1 = n := h
    show (if j + 1 < n then _ else _) = _
    rw [if_pos (by omega)]; rfl
  · have h : ¬ i = 0 := h
    show (if 0 < i then _ else _) = _
    rw [if_pos (by omega)]; rfl
  · have h : ¬ j = 0 := h
    show (if 0 < j then _ else _) = _
    rw [if_pos (by omega)]; rfl
theorem rot_lt {n q i j : Nat} (hi : i < n) (hj : j < n) : rotI n q i j < n ∧ rotJ n q i j < n := by
  unfold rotI rotJ
  constructor <;> (repeat' split) <;> omega
/-- Where a turn takes a side of a cell. -/
def tuS (n t : Nat) (x : Nat × Nat × Nat × Nat) : Nat × Nat × Nat × Nat := (fa t x.1, rotI n (qu t x.1) x.2.1 x.2.2.1, rotJ n (qu t x.1) x.2.1 x.2.2.1, (x.2.2.2 + qu t x.1) % 4)
theorem nb_turn {n t f i j s : Nat} (ht : t < 24) (hf : f < 6) (hi : i < n) (hj : j < n) (hs : s < 4) :
    nb n (fa t f) (rotI n (qu t f) i j) (rotJ n (qu t f) i j) ((s + qu t f) % 4) = tuS n t (nb n f i j s) := by
  obtain ⟨hg, hq⟩ := fa_lt t ht f hf
  have hs' : (s + qu t f) % 4 < 4 := Nat.mod_lt _ (by decide)
  obtain ⟨r1, r2⟩ := rot_lt (q := qu t f) hi hj
  by_cases h : atE n i j s
  · rw [nb_at ((atE_rot hi hj hs hq).2 h) hs', nb_at h hs]
    obtain ⟨b1, b2⟩ := nbT_bd f hf s hs
    obtain ⟨_, b3⟩ := fa_lt t ht _ b1
    have ha : alongS i j s < n := by unfold alongS; split <;> assumption
    have hfl : flipK n (alongS i j s) (nbT f s).2.2 < n := by unfold flipK; split <;> omega
    have hp := put_rot hfl b2 b3
    unfold nbE tuS
    rw [turn_nbT t ht f hf s hs, al_rot hi hj hs hq]
    simp only
    rw [flip_two ha]
    rw [flip_two ha] at hp
    rw [show (flq s (qu t f) ^^ (((nbT f s).2.2 ^^ flq s (qu t f)) ^^ flq (nbT f s).2.1 (qu t (nbT f s).1))) = ((nbT f s).2.2 ^^ flq (nbT f s).2.1 (qu t (nbT f s).1)) by
      generalize (nbT f s).2.2 = a
      generalize flq s (qu t f) = b
      generalize flq (nbT f s).2.1 (qu t (nbT f s).1) = c
      cases a <;> cases b <;> cases c <;> rfl]
    rw [← hp]
  · have h' : ¬ atE n (rotI n (qu t f) i j) (rotJ n (qu t f) i j) ((s + qu t f) % 4) := fun k => h ((atE_rot hi hj hs hq).1 k)
    rw [nb_in r1 r2 hs' h', nb_in hi hj hs h]
    unfold tuS
    simp only
    generalize qu t f = q at *
    obtain rfl | rfl | rfl | rfl := four hs <;> obtain rfl | rfl | rfl | rfl := four hq <;>
      (simp only [atE] at h
       refine Prod.ext rfl (Prod.ext ?_ (Prod.ext ?_ rfl)) <;>
        simp only [rotI, rotJ, if_true, if_false, Nat.reduceEqDiff, Nat.reduceAdd, Nat.reduceMod, reduceIte] <;> omega)

/-! ### Differences of products -/
theorem dat_num' {R : Nat} (h : R < infR) : ∃ m e, (∀ s, dat s R = .number s m e) ∧ mg m e = vR R ∧ (R ≠ 0 → m ≠ 0) ∧ (R = 0 → m = 0) := by
  have hb : f64.binade = 2 ^ 52 := by decide
  have hl : f64.leastPlace = -1074 := by decide
  unfold dat vR
  rw [hb, hl]
  by_cases h1 : R < 2 ^ 52
  · refine ⟨R, -1074, fun s => by rw [if_pos h1], by rw [if_pos h1], fun h => h, fun h => h⟩
  · refine ⟨_, _, fun s => by rw [if_neg h1, if_pos h], by rw [if_neg h1], fun _ => by omega, fun h => by omega⟩
theorem cw_wd (s : Bool) (A : Nat) : ∃ s', cw s A = wd s' A := by
  unfold cw
  split
  · rename_i h; subst h; exact ⟨false, rfl⟩
  · exact ⟨s, rfl⟩
theorem neg_rel (s : Bool) {A : Nat} (h : A < infR) : ∃ s' t', cw s A = wd s' A ∧ negF (cw s A) = wd t' A ∧ (t' = !s' ∨ A = 0) := by
  rw [negF_cw s (Nat.le_of_lt h)]
  by_cases h0 : A = 0
  · obtain ⟨a, ha⟩ := cw_wd s A
    obtain ⟨b, hb⟩ := cw_wd (!s) A
    exact ⟨a, b, ha, hb, .inr h0⟩
  · exact ⟨s, !s, by rw [cw, if_neg h0], by rw [cw, if_neg h0], .inl rfl⟩
/-- Products of middling numbers. -/
theorem mul_fin {A B : Nat} (hA : Comp A) (hB : Comp B) : ∃ N, N < infR ∧ (A = 0 ∨ B = 0 → N = 0) ∧ ∀ s t, fmul (some (wd s A)) (some (wd t B)) = some (wd (s ^^ t) N) := by
  have hi := infR_eq
  obtain ⟨m, i, d1, v1, m1, m2⟩ := dat_num' hA.1
  obtain ⟨n, j, d2, v2, n1, n2⟩ := dat_num' hB.1
  refine ⟨f64.nearest false (m * n) (i + j), ?_, fun h => ?_, fun s t => ?_⟩
  · by_cases h0 : A = 0 ∨ B = 0
    · have : m * n = 0 := by
        rcases h0 with h | h
        · rw [m2 h, Nat.zero_mul]
        · rw [n2 h, Nat.mul_zero]
      rw [this]; exact (by decide : (0 : Nat) < infR)
    · obtain ⟨a0, b0⟩ := not_or.1 h0
      have a1 := hA.2.1.resolve_left a0
      have b1 := hB.2.1.resolve_left b0
      have hM : Mid (vR A * vR B) := by
        have pa := vR_pos hA.1 a0
        have pb := vR_pos hB.1 b0
        have c1 := le_mul (Rat.le_of_lt pb) a1
        have c2 := Rat.mul_le_mul_of_nonneg_left b1 (Rat.le_of_lt (two_pos (-400)))
        have c3 := le_mul (Rat.le_of_lt pb) hA.2.2
        have c4 := Rat.mul_le_mul_of_nonneg_left hB.2.2 (Rat.le_of_lt (two_pos 400))
        have e1 : (2 : Rat) ^ (-800 : Int) = 2 ^ (-400 : Int) * 2 ^ (-400 : Int) := by rw [← two_add]; congr 1
        have e2 : (2 : Rat) ^ (800 : Int) = 2 ^ (400 : Int) * 2 ^ (400 : Int) := by rw [← two_add]; congr 1
        have l1 := two_le (show (-1022 : Int) ≤ -800 by decide)
        have l2 := two_le (show (800 : Int) ≤ 1000 by decide)
        constructor
        · rw [e1] at l1; exact Rat.le_trans l1 (Rat.le_trans c2 c1)
        · rw [e2] at l2; exact Rat.le_trans c3 (Rat.le_trans c4 l2)
      rw [← v1, ← v2, mg_mul] at hM
      exact (near_word _ _ hM).1
  · have : m * n = 0 := by
      rcases h with h | h
      · rw [m2 h, Nat.zero_mul]
      · rw [n2 h, Nat.mul_zero]
    rw [this]; rfl
  · have e : fmul (some (wd s A)) (some (wd t B)) = ((f64.read (wd s A)).product (f64.read (wd t B))).map f64.write := rfl
    have hA' := hA.1
    have hB' := hB.1
    rw [e, read_wd s (by omega), read_wd t (by omega), d1, d2]
    show some (f64.nearest (s ^^ t) (m * n) (i + j)) = _
    rw [nearest_sign]
theorem fmul_comm (a b : Option Nat) : fmul a b = fmul b a := by
  cases a <;> cases b <;> try rfl
  rename_i a b
  show ((f64.read a).product (f64.read b)).map f64.write = ((f64.read b).product (f64.read a)).map f64.write
  rw [product_comm]
/-- Differences of finite words. -/
theorem sub_some {R Q : Nat} (hR : R < infR) (hQ : Q < infR) (r q : Bool) : ∃ d, (dat r R).sum (dat (!q) Q) = some d ∧ canonF (fsub (some (wd r R)) (some (wd q Q))) = canonF (some (f64.write d)) := by
  have hi := infR_eq
  obtain ⟨m, i, d1, _⟩ := dat_num' hR
  obtain ⟨n, j, d2, _⟩ := dat_num' hQ
  have e : fsub (some (wd r R)) (some (wd q Q)) = ((f64.read (wd r R)).sum (f64.read (wd q Q)).opposite).map f64.write := rfl
  rw [read_wd r (by omega), read_wd q (by omega), dat_opp] at e
  cases hs : (dat r R).sum (dat (!q) Q) with
  | none => rw [d1, d2] at hs; exact nomatch hs
  | some d => exact ⟨d, rfl, by rw [e, hs]; rfl⟩
theorem G_good {R Q : Nat} (hR : R < infR) (hQ : Q < infR) (r q : Bool) : Good (canonF (fsub (some (wd r R)) (some (wd q Q)))) := by
  obtain ⟨d, h1, h2⟩ := sub_some hR hQ r q
  rw [h2]
  exact (canon_write d (nan_sum h1)).1
theorem G_neg {R Q : Nat} (hR : R < infR) (hQ : Q < infR) (r q : Bool) : canonF (fsub (some (wd (!r) R)) (some (wd (!q) Q))) = negF (canonF (fsub (some (wd r R)) (some (wd q Q)))) := by
  obtain ⟨d, h1, h2⟩ := sub_some hR hQ r q
  obtain ⟨d', h3, h4⟩ := sub_some hR hQ (!r) (!q)
  rw [h2, h4]
  rcases sum_opp (dat r R) (dat (!q) Q) with ⟨k, _⟩ | ⟨d0, k1, k2⟩
  · rw [h1] at k; exact nomatch k
  · rw [h1] at k1; injection k1 with k1; subst k1
    rw [dat_opp, dat_opp, h3] at k2
    obtain ⟨c1, c2⟩ := canon_write d (nan_sum h1)
    rcases k2 with k2 | ⟨s1, s2, e, rfl, k2⟩
    · injection k2 with k2; rw [k2]; exact c2
    · injection k2 with k2; rw [k2, canon_zero _ rfl, canon_zero _ rfl, negF_0]
theorem G_swap {R Q : Nat} (hR : R < infR) (hQ : Q < infR) (r q : Bool) : canonF (fsub (some (wd q Q)) (some (wd r R))) = negF (canonF (fsub (some (wd r R)) (some (wd q Q)))) := by
  rw [← G_neg hR hQ]
  have e : ∀ s t S T, S < infR → T < infR → fsub (some (wd s S)) (some (wd t T)) = ((dat s S).sum (dat (!t) T)).map f64.write := by
    intro s t S T hS hT
    have hi := infR_eq
    have e : fsub (some (wd s S)) (some (wd t T)) = ((f64.read (wd s S)).sum (f64.read (wd t T)).opposite).map f64.write := rfl
    rw [e, read_wd s (by omega), read_wd t (by omega), dat_opp]
  rw [e _ _ _ _ hQ hR, e _ _ _ _ hR hQ, Bool.not_not, sum_comm]
theorem ZS_zero (s t : Bool) : ZS (dat s 0) (dat t 0) := by
  obtain ⟨m, i, d1, _, _, m2⟩ := dat_num' (R := 0) (by decide)
  rw [d1, d1, m2 rfl]
  exact .inr ⟨s, t, i, rfl, rfl⟩
/-- The sign of a nought plays no part. -/
theorem G_rel {R Q : Nat} (hR : R < infR) (hQ : Q < infR) {r r' q q' : Bool} (h1 : r' = r ∨ R = 0) (h2 : q' = q ∨ Q = 0) : canonF (fsub (some (wd r' R)) (some (wd q' Q))) = canonF (fsub (some (wd r R)) (some (wd q Q))) := by
  obtain ⟨d, k1, k2⟩ := sub_some hR hQ r q
  obtain ⟨d', k3, k4⟩ := sub_some hR hQ r' q'
  rw [k2, k4]
  have z1 : ZS (dat r' R) (dat r R) := by
    rcases h1 with rfl | rfl
    · exact .inl rfl
    · exact ZS_zero _ _
  have z2 : ZS (dat (!q') Q) (dat (!q) Q) := by
    rcases h2 with rfl | rfl
    · exact .inl rfl
    · exact ZS_zero _ _
  rcases sum_ZS2 z1 z2 with ⟨a, _⟩ | ⟨x, y, a, b, c⟩
  · rw [k3] at a; exact nomatch a
  · rw [k3] at a; rw [k1] at b
    injection a with a; injection b with b
    subst a b
    exact c.canon
/-- A canonical middling word. -/
def Cm (a : Nat) : Prop := ∃ s A, Comp A ∧ a = cw s A
theorem Cm.good {a : Nat} (h : Cm a) : Good a := by
  obtain ⟨s, A, h1, h2⟩ := h
  exact ⟨s, A, Nat.le_of_lt h1.1, h2⟩
theorem Cm.neg {a : Nat} (h : Cm a) : Cm (negF a) := by
  obtain ⟨s, A, h1, rfl⟩ := h
  exact ⟨!s, A, h1, negF_cw s (Nat.le_of_lt h1.1)⟩
/-- a b - c d. -/
def dp (a b c d : Nat) : Nat := canonF (fsub (fmul (some a) (some b)) (fmul (some c) (some d)))
theorem dp_good {a b c d : Nat} (ha : Cm a) (hb : Cm b) (hc : Cm c) (hd : Cm d) : Good (dp a b c d) := by
  obtain ⟨s1, A, hA, rfl⟩ := ha
  obtain ⟨s2, B, hB, rfl⟩ := hb
  obtain ⟨s3, C, hC, rfl⟩ := hc
  obtain ⟨s4, D, hD, rfl⟩ := hd
  obtain ⟨t1, e1⟩ := cw_wd s1 A
  obtain ⟨t2, e2⟩ := cw_wd s2 B
  obtain ⟨t3, e3⟩ := cw_wd s3 C
  obtain ⟨t4, e4⟩ := cw_wd s4 D
  obtain ⟨N, n1, _, n2⟩ := mul_fin hA hB
  obtain ⟨N', m1, _, m2⟩ := mul_fin hC hD
  unfold dp
  rw [e1, e2, e3, e4, n2, m2]
  exact G_good n1 m1 _ _
theorem dp_swap {a b c d : Nat} (ha : Cm a) (hb : Cm b) (hc : Cm c) (hd : Cm d) : dp c d a b = negF (dp a b c d) := by
  obtain ⟨s1, A, hA, rfl⟩ := ha
  obtain ⟨s2, B, hB, rfl⟩ := hb
  obtain ⟨s3, C, hC, rfl⟩ := hc
  obtain ⟨s4, D, hD, rfl⟩ := hd
  obtain ⟨t1, e1⟩ := cw_wd s1 A
  obtain ⟨t2, e2⟩ := cw_wd s2 B
  obtain ⟨t3, e3⟩ := cw_wd s3 C
  obtain ⟨t4, e4⟩ := cw_wd s4 D
  obtain ⟨N, n1, _, n2⟩ := mul_fin hA hB
  obtain ⟨N', m1, _, m2⟩ := mul_fin hC hD
  unfold dp
  rw [e1, e2, e3, e4, n2, m2]
  exact G_swap n1 m1 _ _
theorem dp_comm (a b c d : Nat) : dp b a d c = dp a b c d := by
  unfold dp
  rw [fmul_comm (some b), fmul_comm (some d)]
/-- One factor of each product turned about. -/
theorem dp_neg {a b c d : Nat} (ha : Cm a) (hb : Cm b) (hc : Cm c) (hd : Cm d) : dp (negF a) b (negF c) d = negF (dp a b c d) := by
  obtain ⟨s1, A, hA, rfl⟩ := ha
  obtain ⟨s2, B, hB, rfl⟩ := hb
  obtain ⟨s3, C, hC, rfl⟩ := hc
  obtain ⟨s4, D, hD, rfl⟩ := hd
  obtain ⟨t1, u1, e1, f1, r1⟩ := neg_rel s1 hA.1
  obtain ⟨t2, e2⟩ := cw_wd s2 B
  obtain ⟨t3, u3, e3, f3, r3⟩ := neg_rel s3 hC.1
  obtain ⟨t4, e4⟩ := cw_wd s4 D
  obtain ⟨N, n1, n0, n2⟩ := mul_fin hA hB
  obtain ⟨N', m1, m0, m2⟩ := mul_fin hC hD
  unfold dp
  rw [f1, f3, e1, e2, e3, e4, n2, m2, n2, m2, ← G_neg n1 m1]
  refine G_rel n1 m1 ?_ ?_
  · rcases r1 with h | h
    · exact .inl (by rw [h]; cases t1 <;> cases t2 <;> rfl)
    · exact .inr (n0 (.inl h))
  · rcases r3 with h | h
    · exact .inl (by rw [h]; cases t3 <;> cases t4 <;> rfl)
    · exact .inr (m0 (.inl h))
theorem dp_negR {a b c d : Nat} (ha : Cm a) (hb : Cm b) (hc : Cm c) (hd : Cm d) : dp a (negF b) (negF c) d = negF (dp a b c d) := by
  obtain ⟨s1, A, hA, rfl⟩ := ha
  obtain ⟨s2, B, hB, rfl⟩ := hb
  obtain ⟨s3, C, hC, rfl⟩ := hc
  obtain ⟨s4, D, hD, rfl⟩ := hd
  obtain ⟨t1, e1⟩ := cw_wd s1 A
  obtain ⟨t2, u2, e2, f2, r2⟩ := neg_rel s2 hB.1
  obtain ⟨t3, u3, e3, f3, r3⟩ := neg_rel s3 hC.1
  obtain ⟨t4, e4⟩ := cw_wd s4 D
  obtain ⟨N, n1, n0, n2⟩ := mul_fin hA hB
  obtain ⟨N', m1, m0, m2⟩ := mul_fin hC hD
  unfold dp
  rw [f2, f3, e1, e2, e3, e4, n2, m2, n2, m2, ← G_neg n1 m1]
  refine G_rel n1 m1 ?_ ?_
  · rcases r2 with h | h
    · exact .inl (by rw [h]; cases t1 <;> cases t2 <;> rfl)
    · exact .inr (n0 (.inr h))
  · rcases r3 with h | h
    · exact .inl (by rw [h]; cases t3 <;> cases t4 <;> rfl)
    · exact .inr (m0 (.inl h))
theorem cross_dp (u v : W) : crossF u v = ⟨dp u.y v.z u.z v.y, dp u.z v.x u.x v.z, dp u.x v.y u.y v.x⟩ := rfl
structure CmW (a : W) : Prop where
  x : Cm a.x
  y : Cm a.y
  z : Cm a.z
theorem CmW.good {a : W} (h : CmW a) : GoodW a := ⟨h.x.good, h.y.good, h.z.good⟩

/-! ### Moves: two parts exchanged; one turned about -/
def MW : Nat → W → W
  | 0, w => ⟨w.y, w.x, w.z⟩
  | 1, w => ⟨w.x, w.z, w.y⟩
  | _, w => ⟨negF w.x, w.y, w.z⟩
def MD : Nat → DirZ → DirZ
  | 0, d => ⟨d.y, d.x, d.z⟩
  | 1, d => ⟨d.x, d.z, d.y⟩
  | _, d => ⟨-d.x, d.y, d.z⟩
theorem len_MW (m : Nat) {w : W} (h : GoodW w) : lenF (MW m w) = lenF w := by
  match m with
  | 0 => exact lenF_swap12 h
  | 1 => exact lenF_swap23 h
  | m + 2 => exact lenF_neg1 h
theorem cross_good {u v : W} (hu : CmW u) (hv : CmW v) : GoodW (crossF u v) :=
  ⟨dp_good hu.y hv.z hu.z hv.y, dp_good hu.z hv.x hu.x hv.z, dp_good hu.x hv.y hu.y hv.x⟩
theorem len_negs {w : W} (h : GoodW w) : lenF ⟨negF w.x, negF w.y, negF w.z⟩ = lenF w := lenF_neg h.x h.y h.z
theorem cross_MW (m : Nat) {u v : W} (hu : CmW u) (hv : CmW v) : lenF (crossF (MW m u) (MW m v)) = lenF (crossF u v) := by
  have hc := cross_good hu hv
  match m with
  | 0 =>
    have e : crossF (MW 0 u) (MW 0 v) = ⟨negF (crossF u v).y, negF (crossF u v).x, negF (crossF u v).z⟩ := by
      simp only [cross_dp, MW]
      rw [dp_swap hu.z hv.x hu.x hv.z, dp_swap hu.y hv.z hu.z hv.y, dp_swap hu.x hv.y hu.y hv.x]
    rw [e]
    exact (lenF_swap12 (a := ⟨negF (crossF u v).x, negF (crossF u v).y, negF (crossF u v).z⟩) ⟨hc.x.neg, hc.y.neg, hc.z.neg⟩).trans (len_negs hc)
  | 1 =>
    have e : crossF (MW 1 u) (MW 1 v) = ⟨negF (crossF u v).x, negF (crossF u v).z, negF (crossF u v).y⟩ := by
      simp only [cross_dp, MW]
      rw [dp_swap hu.z hv.x hu.x hv.z, dp_swap hu.y hv.z hu.z hv.y, dp_swap hu.x hv.y hu.y hv.x]
    rw [e]
    exact (lenF_swap23 (a := ⟨negF (crossF u v).x, negF (crossF u v).y, negF (crossF u v).z⟩) ⟨hc.x.neg, hc.y.neg, hc.z.neg⟩).trans (len_negs hc)
  | m + 2 =>
    have e : crossF (MW (m + 2) u) (MW (m + 2) v) = ⟨(crossF u v).x, negF (crossF u v).y, negF (crossF u v).z⟩ := by
      simp only [cross_dp, MW]
      rw [dp_negR hu.z hv.x hu.x hv.z]
      have h3 : dp (negF u.x) v.y u.y (negF v.x) = negF (dp u.x v.y u.y v.x) := by
        have h := dp_neg (a := u.x) (b := v.y) (c := v.x) (d := u.y) hu.x hv.y hv.x hu.y
        have e1 : dp (negF u.x) v.y u.y (negF v.x) = dp (negF u.x) v.y (negF v.x) u.y := by unfold dp; rw [fmul_comm (some u.y)]
        have e2 : dp u.x v.y u.y v.x = dp u.x v.y v.x u.y := by unfold dp; rw [fmul_comm (some u.y)]
        rw [e1, h, e2]
      rw [h3]
    rw [e]
    unfold lenF
    simp only [sq_neg hc.y, sq_neg hc.z]
theorem good_neg1 {w : W} (h : GoodW w) (m : Nat) : GoodW (MW m w) := by
  match m with
  | 0 => exact ⟨h.y, h.x, h.z⟩
  | 1 => exact ⟨h.x, h.z, h.y⟩
  | m + 2 => exact ⟨h.x.neg, h.y, h.z⟩
/-- A point of the unit sphere. -/
structure PtW (a : W) : Prop where
  x : ∃ s A, Fin22 A ∧ a.x = cw s A
  y : ∃ s A, Fin22 A ∧ a.y = cw s A
  z : ∃ s A, Fin22 A ∧ a.z = cw s A
theorem fin_neg {a : Nat} (h : ∃ s A, Fin22 A ∧ a = cw s A) : ∃ s A, Fin22 A ∧ negF a = cw s A := by
  obtain ⟨s, A, h1, rfl⟩ := h
  exact ⟨!s, A, h1, negF_cw s (Nat.le_of_lt h1.1)⟩
theorem fin_good {a : Nat} (h : ∃ s A, Fin22 A ∧ a = cw s A) : Good a := by
  obtain ⟨s, A, h1, h2⟩ := h
  exact ⟨s, A, Nat.le_of_lt h1.1, h2⟩
theorem fin_sub {a b : Nat} (ha : ∃ s A, Fin22 A ∧ a = cw s A) (hb : ∃ s A, Fin22 A ∧ b = cw s A) : Cm (canonF (fsub (some a) (some b))) ∧ canonF (fsub (some b) (some a)) = negF (canonF (fsub (some a) (some b))) ∧ canonF (fsub (some (negF a)) (some (negF b))) = negF (canonF (fsub (some a) (some b))) := by
  obtain ⟨s, A, hA, rfl⟩ := ha
  obtain ⟨t, B, hB, rfl⟩ := hb
  obtain ⟨r, D, e, k⟩ := sub_near s t hA hB
  refine ⟨⟨r, D, (sub_comp (r := r) k).1, e⟩, sub_swap (sub_lt k) e, ?_⟩
  rcases sub_neg (a := cw s A) (b := cw t B) ⟨s, A, Nat.le_of_lt hA.1, rfl⟩ ⟨t, B, Nat.le_of_lt hB.1, rfl⟩ with ⟨h, _⟩ | ⟨h, _⟩
  · obtain ⟨s', es⟩ := cw_wd s A
    obtain ⟨t', et⟩ := cw_wd t B
    obtain ⟨d, h1, _⟩ := sub_some hA.1 hB.1 s' t'
    have e2 : fsub (some (wd s' A)) (some (wd t' B)) = ((f64.read (wd s' A)).sum (f64.read (wd t' B)).opposite).map f64.write := rfl
    have hi := infR_eq
    have ha := hA.1
    have hb := hB.1
    rw [read_wd s' (by omega), read_wd t' (by omega), dat_opp, h1] at e2
    rw [es, et, e2] at h
    exact nomatch h
  · exact h
theorem minus_cm {p q : W} (hp : PtW p) (hq : PtW q) : CmW (minusF p q) := ⟨(fin_sub hp.x hq.x).1, (fin_sub hp.y hq.y).1, (fin_sub hp.z hq.z).1⟩
theorem minus_MW (m : Nat) {p q : W} (hp : PtW p) (hq : PtW q) : minusF (MW m p) (MW m q) = MW m (minusF p q) := by
  match m with
  | 0 => rfl
  | 1 => rfl
  | m + 2 =>
    show (⟨canonF (fsub (some (negF p.x)) (some (negF q.x))), (minusF p q).y, (minusF p q).z⟩ : W) = ⟨negF (canonF (fsub (some p.x) (some q.x))), (minusF p q).y, (minusF p q).z⟩
    rw [(fin_sub hp.x hq.x).2.2]
theorem pt_MW (m : Nat) {p : W} (hp : PtW p) : PtW (MW m p) := by
  match m with
  | 0 => exact ⟨hp.y, hp.x, hp.z⟩
  | 1 => exact ⟨hp.x, hp.z, hp.y⟩
  | m + 2 => exact ⟨fin_neg hp.x, hp.y, hp.z⟩
theorem gap_MW (m : Nat) {p q : W} (hp : PtW p) (hq : PtW q) : gapF (MW m p) (MW m q) = gapF p q := by
  unfold gapF
  rw [minus_MW m hp hq]
  exact len_MW m (minus_cm hp hq).good
theorem area_MW (m : Nat) {p q r s : W} (hp : PtW p) (hq : PtW q) (hr : PtW r) (hs : PtW s) : areaX (MW m p) (MW m q) (MW m r) (MW m s) = areaX p q r s := by
  unfold areaX
  rw [minus_MW m hr hp, minus_MW m hs hq]
  exact cross_MW m (minus_cm hr hp) (minus_cm hs hq)
theorem minus_swap {p q : W} (hp : PtW p) (hq : PtW q) : minusF q p = ⟨negF (minusF p q).x, negF (minusF p q).y, negF (minusF p q).z⟩ := by
  show (⟨canonF (fsub (some q.x) (some p.x)), canonF (fsub (some q.y) (some p.y)), canonF (fsub (some q.z) (some p.z))⟩ : W) = ⟨negF (canonF (fsub (some p.x) (some q.x))), negF (canonF (fsub (some p.y) (some q.y))), negF (canonF (fsub (some p.z) (some q.z)))⟩
  rw [(fin_sub hp.x hq.x).2.1, (fin_sub hp.y hq.y).2.1, (fin_sub hp.z hq.z).2.1]
/-- The corners gone through from another one on. -/
theorem area_rot {p q r s : W} (hp : PtW p) (hq : PtW q) (hr : PtW r) (hs : PtW s) : areaX s p q r = areaX p q r s := by
  unfold areaX
  have hu := minus_cm hr hp
  have hv := minus_cm hs hq
  rw [minus_swap hs hq]
  generalize minusF r p = u at *
  generalize minusF s q = v at *
  have key : ∀ {a b c d : Nat}, Cm a → Cm b → Cm c → Cm d → dp (negF d) c (negF b) a = dp a b c d := by
    intro a b c d ha hb hc hd
    rw [dp_neg hd hc hb ha, dp_comm c d a b, dp_swap ha hb hc hd, (dp_good ha hb hc hd).neg_neg]
  have e : crossF ⟨negF v.x, negF v.y, negF v.z⟩ u = crossF u v := by
    simp only [cross_dp]
    rw [key hu.y hv.z hu.z hv.y, key hu.z hv.x hu.x hv.z, key hu.x hv.y hu.y hv.x]
  rw [e]

/-! ### Directions -/
theorem qS_neg {n : Nat} {k : Int} (hn : 1 ≤ n) (hn' : n ≤ 32) (hk : k.natAbs ≤ n) : qS n (-k) = negF (qS n k) := by
  obtain ⟨h1, h2, _⟩ := qX_dir hn hn' hk
  unfold qS
  rw [negF_cw _ (Nat.le_of_lt h1.1), Int.natAbs_neg]
  by_cases h0 : k = 0
  · subst h0
    rw [h2.2 rfl]; rfl
  · congr 1
    by_cases h : k < 0
    · rw [decide_eq_true h, decide_eq_false (by omega)]; rfl
    · rw [decide_eq_false h, decide_eq_true (by omega)]; rfl
theorem vec_good {n : Nat} {d : DirZ} (hn : 1 ≤ n) (hn' : n ≤ 32) (h : OnCube n d) : GoodW (vecW n d) :=
  ⟨⟨_, _, Nat.le_of_lt (qX_dir hn hn' h.1).1.1, rfl⟩, ⟨_, _, Nat.le_of_lt (qX_dir hn hn' h.2.1).1.1, rfl⟩, ⟨_, _, Nat.le_of_lt (qX_dir hn hn' h.2.2.1).1.1, rfl⟩⟩
theorem unit_pt {n : Nat} {d : DirZ} (hn : 1 ≤ n) (hn' : n ≤ 32) (h : OnCube n d) : PtW (unitF (vecW n d)) := by
  obtain ⟨L, A, B, C, _, _, _, e1, ⟨a1, _⟩, ⟨b1, _⟩, ⟨c1, _⟩⟩ := unit_dir hn hn' h
  rw [e1]
  exact ⟨⟨_, _, a1, rfl⟩, ⟨_, _, b1, rfl⟩, ⟨_, _, c1, rfl⟩⟩
theorem on_MD (m : Nat) {n : Nat} {d : DirZ} (h : OnCube n d) : OnCube n (MD m d) := by
  obtain ⟨h1, h2, h3, h4⟩ := h
  match m with
  | 0 => exact ⟨h2, h1, h3, by rcases h4 with h | h | h; exact .inr (.inl h); exact .inl h; exact .inr (.inr h)⟩
  | 1 => exact ⟨h1, h3, h2, by rcases h4 with h | h | h; exact .inl h; exact .inr (.inr h); exact .inr (.inl h)⟩
  | m + 2 => exact ⟨by show (-d.x).natAbs ≤ n; omega, h2, h3, by rcases h4 with h | h | h; exact .inl (by show (-d.x).natAbs = n; omega); exact .inr (.inl h); exact .inr (.inr h)⟩
def unitC (l : Nat) : Bool := fgt (some l) (some 0) && !fgt (some l) (some 9218868437227405311)
theorem unit_eq (a : W) : unitF a = if unitC (lenF a) = true then ⟨canonF (fdiv (some a.x) (some (lenF a))), canonF (fdiv (some a.y) (some (lenF a))), canonF (fdiv (some a.z) (some (lenF a)))⟩ else ⟨0, 0, 0⟩ := rfl
theorem vec_MD (m : Nat) {n : Nat} {d : DirZ} (hn : 1 ≤ n) (hn' : n ≤ 32) (h : OnCube n d) : vecW n (MD m d) = MW m (vecW n d) := by
  match m with
  | 0 => rfl
  | 1 => rfl
  | m + 2 =>
    show (⟨qS n (-d.x), qS n d.y, qS n d.z⟩ : W) = ⟨negF (qS n d.x), qS n d.y, qS n d.z⟩
    rw [qS_neg hn hn' h.1]
theorem cw_qn {s : Bool} {A : Nat} (hA : A < infR) : qn ≠ cw s A := by
  intro e2
  have hi := infR_eq
  have hqn : qn = 9221120237041090561 := rfl
  unfold cw at e2
  split at e2
  · omega
  · cases s
    · rw [wd_false] at e2; omega
    · rw [wd_true] at e2; omega
theorem unit_core (C : Bool) (q : Nat → Nat) (v : W) (m : Nat) (hneg : C = true → q (negF v.x) = negF (q v.x)) :
    (if C = true then (⟨q (MW m v).x, q (MW m v).y, q (MW m v).z⟩ : W) else ⟨0, 0, 0⟩) = MW m (if C = true then ⟨q v.x, q v.y, q v.z⟩ else ⟨0, 0, 0⟩) := by
  cases C
  · match m with
    | 0 => rfl
    | 1 => rfl
    | m + 2 =>
      show (⟨0, 0, 0⟩ : W) = ⟨negF 0, 0, 0⟩
      rw [negF_0]
  · match m with
    | 0 => rfl
    | 1 => rfl
    | m + 2 =>
      show (⟨q (negF v.x), q v.y, q v.z⟩ : W) = ⟨negF (q v.x), q v.y, q v.z⟩
      rw [hneg rfl]
theorem unit_neg {v : W} (hg : GoodW v) {s t r : Bool} {A B C : Nat} (e1 : unitF v = ⟨cw s A, cw t B, cw r C⟩) (hA : A < infR) (hc : unitC (lenF v) = true) : canonF (fdiv (some (negF v.x)) (some (lenF v))) = negF (canonF (fdiv (some v.x) (some (lenF v)))) := by
  refine (div_neg (lenF v) hg.x fun h0 => ?_).1
  have e2 := congrArg W.x (((unit_eq v).trans (if_pos hc)).symm.trans e1)
  simp only at e2
  rw [h0] at e2
  exact cw_qn hA e2
theorem unit_MD (m : Nat) {n : Nat} {d : DirZ} (hn : 1 ≤ n) (hn' : n ≤ 32) (h : OnCube n d) : unitF (vecW n (MD m d)) = MW m (unitF (vecW n d)) := by
  have hg := vec_good hn hn' h
  obtain ⟨L, A, B, C, _, _, _, e1, ⟨a1, _⟩, _, _⟩ := unit_dir hn hn' h
  rw [vec_MD m hn hn' h, unit_eq (MW m (vecW n d)), unit_eq (vecW n d), len_MW m hg]
  exact unit_core (unitC (lenF (vecW n d))) (fun x => canonF (fdiv (some x) (some (lenF (vecW n d))))) (vecW n d) m (unit_neg hg e1 a1.1)
/-- Where a turn takes a direction. -/
def tD (t : Nat) (d : DirZ) : DirZ := ⟨tx t 0 * d.x + tx t 3 * d.y + tx t 6 * d.z, tx t 1 * d.x + tx t 4 * d.y + tx t 7 * d.z, tx t 2 * d.x + tx t 5 * d.y + tx t 8 * d.z⟩
def wT : List (List Nat) := [[], [0, 1, 0, 2, 0, 1, 2, 0], [1, 0, 2, 0], [0, 2, 0, 1], [0, 1, 0, 2, 0, 1], [0, 2], [1, 0], [0, 1, 2, 0, 1, 2], [1, 0, 2, 0, 1, 2], [0, 2, 0, 2], [1, 2], [0, 1, 2, 0, 1, 2, 0, 2], [2, 0], [1, 0, 2, 0, 1, 2, 0, 2], [1, 2, 0, 2], [0, 2, 0, 1, 2, 0], [0, 1], [0, 1, 0, 2], [0, 1, 0, 2, 0, 2], [0, 1, 2, 0], [1, 2, 0, 1, 2, 0], [1, 2, 0, 1], [2, 0, 1, 2], [2, 0, 1, 2, 0, 2]]
theorem tD_word (t : Nat) (ht : t < 24) (d : DirZ) : tD t d = (wT.getD t []).foldl (fun d m => MD m d) d := by
  obtain rfl | rfl | rfl | rfl | rfl | rfl | rfl | rfl | rfl | rfl | rfl | rfl | rfl | rfl | rfl | rfl | rfl | rfl | rfl | rfl | rfl | rfl | rfl | rfl : t = 0 ∨ t = 1 ∨ t = 2 ∨ t = 3 ∨ t = 4 ∨ t = 5 ∨ t = 6 ∨ t = 7 ∨ t = 8 ∨ t = 9 ∨ t = 10 ∨ t = 11 ∨ t = 12 ∨ t = 13 ∨ t = 14 ∨ t = 15 ∨ t = 16 ∨ t = 17 ∨ t = 18 ∨ t = 19 ∨ t = 20 ∨ t = 21 ∨ t = 22 ∨ t = 23 := by omega
  · exact DirZ.of (by show (1 : Int) * d.x + (0) * d.y + (0) * d.z = d.x; omega) (by show (0 : Int) * d.x + (1) * d.y + (0) * d.z = d.y; omega) (by show (0 : Int) * d.x + (0) * d.y + (1) * d.z = d.z; omega)
  · exact DirZ.of (by show (1 : Int) * d.x + (0) * d.y + (0) * d.z = d.x; omega) (by show (0 : Int) * d.x + (-1) * d.y + (0) * d.z = -(d.y); omega) (by show (0 : Int) * d.x + (0) * d.y + (-1) * d.z = -(d.z); omega)
  · exact DirZ.of (by show (1 : Int) * d.x + (0) * d.y + (0) * d.z = d.x; omega) (by show (0 : Int) * d.x + (0) * d.y + (-1) * d.z = -(d.z); omega) (by show (0 : Int) * d.x + (1) * d.y + (0) * d.z = d.y; omega)
  · exact DirZ.of (by show (1 : Int) * d.x + (0) * d.y + (0) * d.z = d.x; omega) (by show (0 : Int) * d.x + (0) * d.y + (1) * d.z = d.z; omega) (by show (0 : Int) * d.x + (-1) * d.y + (0) * d.z = -(d.y); omega)
  · exact DirZ.of (by show (0 : Int) * d.x + (1) * d.y + (0) * d.z = d.y; omega) (by show (1 : Int) * d.x + (0) * d.y + (0) * d.z = d.x; omega) (by show (0 : Int) * d.x + (0) * d.y + (-1) * d.z = -(d.z); omega)
  · exact DirZ.of (by show (0 : Int) * d.x + (-1) * d.y + (0) * d.z = -(d.y); omega) (by show (1 : Int) * d.x + (0) * d.y + (0) * d.z = d.x; omega) (by show (0 : Int) * d.x + (0) * d.y + (1) * d.z = d.z; omega)
  · exact DirZ.of (by show (0 : Int) * d.x + (0) * d.y + (1) * d.z = d.z; omega) (by show (1 : Int) * d.x + (0) * d.y + (0) * d.z = d.x; omega) (by show (0 : Int) * d.x + (1) * d.y + (0) * d.z = d.y; omega)
  · exact DirZ.of (by show (0 : Int) * d.x + (0) * d.y + (-1) * d.z = -(d.z); omega) (by show (1 : Int) * d.x + (0) * d.y + (0) * d.z = d.x; omega) (by show (0 : Int) * d.x + (-1) * d.y + (0) * d.z = -(d.y); omega)
  · exact DirZ.of (by show (-1 : Int) * d.x + (0) * d.y + (0) * d.z = -(d.x); omega) (by show (0 : Int) * d.x + (1) * d.y + (0) * d.z = d.y; omega) (by show (0 : Int) * d.x + (0) * d.y + (-1) * d.z = -(d.z); omega)
  · exact DirZ.of (by show (-1 : Int) * d.x + (0) * d.y + (0) * d.z = -(d.x); omega) (by show (0 : Int) * d.x + (-1) * d.y + (0) * d.z = -(d.y); omega) (by show (0 : Int) * d.x + (0) * d.y + (1) * d.z = d.z; omega)
  · exact DirZ.of (by show (-1 : Int) * d.x + (0) * d.y + (0) * d.z = -(d.x); omega) (by show (0 : Int) * d.x + (0) * d.y + (1) * d.z = d.z; omega) (by show (0 : Int) * d.x + (1) * d.y + (0) * d.z = d.y; omega)
  · exact DirZ.of (by show (-1 : Int) * d.x + (0) * d.y + (0) * d.z = -(d.x); omega) (by show (0 : Int) * d.x + (0) * d.y + (-1) * d.z = -(d.z); omega) (by show (0 : Int) * d.x + (-1) * d.y + (0) * d.z = -(d.y); omega)
  · exact DirZ.of (by show (0 : Int) * d.x + (1) * d.y + (0) * d.z = d.y; omega) (by show (-1 : Int) * d.x + (0) * d.y + (0) * d.z = -(d.x); omega) (by show (0 : Int) * d.x + (0) * d.y + (1) * d.z = d.z; omega)
  · exact DirZ.of (by show (0 : Int) * d.x + (-1) * d.y + (0) * d.z = -(d.y); omega) (by show (-1 : Int) * d.x + (0) * d.y + (0) * d.z = -(d.x); omega) (by show (0 : Int) * d.x + (0) * d.y + (-1) * d.z = -(d.z); omega)
  · exact DirZ.of (by show (0 : Int) * d.x + (0) * d.y + (-1) * d.z = -(d.z); omega) (by show (-1 : Int) * d.x + (0) * d.y + (0) * d.z = -(d.x); omega) (by show (0 : Int) * d.x + (1) * d.y + (0) * d.z = d.y; omega)
  · exact DirZ.of (by show (0 : Int) * d.x + (0) * d.y + (1) * d.z = d.z; omega) (by show (-1 : Int) * d.x + (0) * d.y + (0) * d.z = -(d.x); omega) (by show (0 : Int) * d.x + (-1) * d.y + (0) * d.z = -(d.y); omega)
  · exact DirZ.of (by show (0 : Int) * d.x + (1) * d.y + (0) * d.z = d.y; omega) (by show (0 : Int) * d.x + (0) * d.y + (1) * d.z = d.z; omega) (by show (1 : Int) * d.x + (0) * d.y + (0) * d.z = d.x; omega)
  · exact DirZ.of (by show (0 : Int) * d.x + (0) * d.y + (-1) * d.z = -(d.z); omega) (by show (0 : Int) * d.x + (1) * d.y + (0) * d.z = d.y; omega) (by show (1 : Int) * d.x + (0) * d.y + (0) * d.z = d.x; omega)
  · exact DirZ.of (by show (0 : Int) * d.x + (-1) * d.y + (0) * d.z = -(d.y); omega) (by show (0 : Int) * d.x + (0) * d.y + (-1) * d.z = -(d.z); omega) (by show (1 : Int) * d.x + (0) * d.y + (0) * d.z = d.x; omega)
  · exact DirZ.of (by show (0 : Int) * d.x + (0) * d.y + (1) * d.z = d.z; omega) (by show (0 : Int) * d.x + (-1) * d.y + (0) * d.z = -(d.y); omega) (by show (1 : Int) * d.x + (0) * d.y + (0) * d.z = d.x; omega)
  · exact DirZ.of (by show (0 : Int) * d.x + (1) * d.y + (0) * d.z = d.y; omega) (by show (0 : Int) * d.x + (0) * d.y + (-1) * d.z = -(d.z); omega) (by show (-1 : Int) * d.x + (0) * d.y + (0) * d.z = -(d.x); omega)
  · exact DirZ.of (by show (0 : Int) * d.x + (0) * d.y + (1) * d.z = d.z; omega) (by show (0 : Int) * d.x + (1) * d.y + (0) * d.z = d.y; omega) (by show (-1 : Int) * d.x + (0) * d.y + (0) * d.z = -(d.x); omega)
  · exact DirZ.of (by show (0 : Int) * d.x + (-1) * d.y + (0) * d.z = -(d.y); omega) (by show (0 : Int) * d.x + (0) * d.y + (1) * d.z = d.z; omega) (by show (-1 : Int) * d.x + (0) * d.y + (0) * d.z = -(d.x); omega)
  · exact DirZ.of (by show (0 : Int) * d.x + (0) * d.y + (-1) * d.z = -(d.z); omega) (by show (0 : Int) * d.x + (-1) * d.y + (0) * d.z = -(d.y); omega) (by show (-1 : Int) * d.x + (0) * d.y + (0) * d.z = -(d.x); omega)
/-- What moves leave, a turn leaves. -/
theorem on_word {n : Nat} : ∀ (l : List Nat) {d : DirZ}, OnCube n d → OnCube n (l.foldl (fun d m => MD m d) d)
  | [], d, h => h
  | m :: l, d, h => on_word l (on_MD m h)
theorem gap_word {n : Nat} (hn : 1 ≤ n) (hn' : n ≤ 32) : ∀ (l : List Nat) {a b : DirZ}, OnCube n a → OnCube n b → gapF (unitF (vecW n (l.foldl (fun d m => MD m d) a))) (unitF (vecW n (l.foldl (fun d m => MD m d) b))) = gapF (unitF (vecW n a)) (unitF (vecW n b))
  | [], a, b, _, _ => rfl
  | m :: l, a, b, ha, hb => by
    have := gap_word hn hn' l (on_MD m ha) (on_MD m hb)
    simp only [List.foldl_cons]
    rw [this, unit_MD m hn hn' ha, unit_MD m hn hn' hb, gap_MW m (unit_pt hn hn' ha) (unit_pt hn hn' hb)]
theorem area_word {n : Nat} (hn : 1 ≤ n) (hn' : n ≤ 32) : ∀ (l : List Nat) {a b c d : DirZ}, OnCube n a → OnCube n b → OnCube n c → OnCube n d →
    areaX (unitF (vecW n (l.foldl (fun d m => MD m d) a))) (unitF (vecW n (l.foldl (fun d m => MD m d) b))) (unitF (vecW n (l.foldl (fun d m => MD m d) c))) (unitF (vecW n (l.foldl (fun d m => MD m d) d))) =
    areaX (unitF (vecW n a)) (unitF (vecW n b)) (unitF (vecW n c)) (unitF (vecW n d))
  | [], _, _, _, _, _, _, _, _ => rfl
  | m :: l, a, b, c, d, ha, hb, hc, hd => by
    have := area_word hn hn' l (on_MD m ha) (on_MD m hb) (on_MD m hc) (on_MD m hd)
    simp only [List.foldl_cons]
    rw [this, unit_MD m hn hn' ha, unit_MD m hn hn' hb, unit_MD m hn hn' hc, unit_MD m hn hn' hd, area_MW m (unit_pt hn hn' ha) (unit_pt hn hn' hb) (unit_pt hn hn' hc) (unit_pt hn hn' hd)]
theorem gap_tD {n t : Nat} (hn : 1 ≤ n) (hn' : n ≤ 32) (ht : t < 24) {a b : DirZ} (ha : OnCube n a) (hb : OnCube n b) : gapF (unitF (vecW n (tD t a))) (unitF (vecW n (tD t b))) = gapF (unitF (vecW n a)) (unitF (vecW n b)) := by
  rw [tD_word t ht, tD_word t ht]
  exact gap_word hn hn' _ ha hb
theorem area_tD {n t : Nat} (hn : 1 ≤ n) (hn' : n ≤ 32) (ht : t < 24) {a b c d : DirZ} (ha : OnCube n a) (hb : OnCube n b) (hc : OnCube n c) (hd : OnCube n d) :
    areaX (unitF (vecW n (tD t a))) (unitF (vecW n (tD t b))) (unitF (vecW n (tD t c))) (unitF (vecW n (tD t d))) = areaX (unitF (vecW n a)) (unitF (vecW n b)) (unitF (vecW n c)) (unitF (vecW n d)) := by
  rw [tD_word t ht, tD_word t ht, tD_word t ht, tD_word t ht]
  exact area_word hn hn' _ ha hb hc hd

def rkT (q : Nat) (k l : Int) : Int := if q = 0 then k else if q = 1 then -l else if q = 2 then -k else l
def rlT (q : Nat) (k l : Int) : Int := if q = 0 then l else if q = 1 then k else if q = 2 then -l else -k
theorem dirF_fc {n f : Nat} (hf : f < 6) (k l : Int) : dirF n f k l = ⟨n * fc f 0 + k * fc f 3 + l * fc f 6, n * fc f 1 + k * fc f 4 + l * fc f 7, n * fc f 2 + k * fc f 5 + l * fc f 8⟩ := by
  obtain rfl | rfl | rfl | rfl | rfl | rfl : f = 0 ∨ f = 1 ∨ f = 2 ∨ f = 3 ∨ f = 4 ∨ f = 5 := by omega
  · exact DirZ.of (by show (n : Int) = n * 1 + k * 0 + l * 0; omega) (by show k = n * 0 + k * 1 + l * 0; omega) (by show l = n * 0 + k * 0 + l * 1; omega)
  · exact DirZ.of (by show -k = n * 0 + k * (-1) + l * 0; omega) (by show (n : Int) = n * 1 + k * 0 + l * 0; omega) (by show l = n * 0 + k * 0 + l * 1; omega)
  · exact DirZ.of (by show -(n : Int) = n * (-1) + k * 0 + l * 0; omega) (by show -k = n * 0 + k * (-1) + l * 0; omega) (by show l = n * 0 + k * 0 + l * 1; omega)
  · exact DirZ.of (by show k = n * 0 + k * 1 + l * 0; omega) (by show -(n : Int) = n * (-1) + k * 0 + l * 0; omega) (by show l = n * 0 + k * 0 + l * 1; omega)
  · exact DirZ.of (by show -l = n * 0 + k * 0 + l * (-1); omega) (by show k = n * 0 + k * 1 + l * 0; omega) (by show (n : Int) = n * 1 + k * 0 + l * 0; omega)
  · exact DirZ.of (by show l = n * 0 + k * 0 + l * 1; omega) (by show k = n * 0 + k * 1 + l * 0; omega) (by show -(n : Int) = n * (-1) + k * 0 + l * 0; omega)
theorem dir_comp {t f : Nat} (ht : t < 24) (hf : f < 6) (n k l : Int) {c : Nat} (hc : c < 3) :
    tx t c * (n * fc f 0 + k * fc f 3 + l * fc f 6) + tx t (3 + c) * (n * fc f 1 + k * fc f 4 + l * fc f 7) + tx t (6 + c) * (n * fc f 2 + k * fc f 5 + l * fc f 8) =
    n * fc (fa t f) c + rkT (qu t f) k l * fc (fa t f) (3 + c) + rlT (qu t f) k l * fc (fa t f) (6 + c) := by
  have h1 := turn_mid t ht f hf c hc
  have h2 := turn_east t ht f hf c hc
  have h3 := turn_north t ht f hf c hc
  obtain ⟨hg, hq⟩ := fa_lt t ht f hf
  obtain ⟨o0, o1, o2, o3⟩ := ou_fc (fa t f) hg c hc
  generalize fa t f = g at *
  obtain h | h | h | h : qu t f = 0 ∨ qu t f = 1 ∨ qu t f = 2 ∨ qu t f = 3 := by omega
  all_goals
    rw [h] at h2 h3 ⊢
    simp only [rkT, rlT, if_true, if_false, Nat.reduceEqDiff, Nat.reduceAdd, Nat.reduceMod, reduceIte] at *
  · rw [o0] at h2; rw [o1] at h3
    grind
  · rw [o1] at h2; rw [o2] at h3
    grind
  · rw [o2] at h2; rw [o3] at h3
    grind
  · rw [o3] at h2; rw [o0] at h3
    grind
theorem dir_turn {n t f : Nat} (ht : t < 24) (hf : f < 6) (k l : Int) : tD t (dirF n f k l) = dirF n (fa t f) (rkT (qu t f) k l) (rlT (qu t f) k l) := by
  rw [dirF_fc hf, dirF_fc (fa_lt t ht f hf).1]
  exact DirZ.of (dir_comp ht hf n k l (c := 0) (by decide)) (dir_comp ht hf n k l (c := 1) (by decide)) (dir_comp ht hf n k l (c := 2) (by decide))
theorem dirF_congr {n g : Nat} {a b a' b' : Int} (h : a = a') (h' : b = b') : dirF n g a b = dirF n g a' b' := by rw [h, h']
theorem rot_0 {n i j : Nat} : rotI n 0 i j = i ∧ rotJ n 0 i j = j := ⟨rfl, rfl⟩
theorem rot_1 {n i j : Nat} : rotI n 1 i j = n - 1 - j ∧ rotJ n 1 i j = i := ⟨rfl, rfl⟩
theorem rot_2 {n i j : Nat} : rotI n 2 i j = n - 1 - i ∧ rotJ n 2 i j = n - 1 - j := ⟨rfl, rfl⟩
theorem rot_3 {n i j : Nat} : rotI n 3 i j = j ∧ rotJ n 3 i j = n - 1 - i := ⟨rfl, rfl⟩
theorem areaT_X (n f i j : Nat) : areaT n f i j = (fun X : Nat => if 1 > roundT (fmul (fmul (some X) (some halfB)) (some unitB)) then 1 else roundT (fmul (fmul (some X) (some halfB)) (some unitB))) (areaX (cornerF n f i j) (cornerF n f (i + 1) j) (cornerF n f (i + 1) (j + 1)) (cornerF n f i (j + 1))) := rfl
/-- The area of the corners whose directions are these. -/
def aD (n : Nat) (a b c d : DirZ) : Nat := areaX (unitF (vecW n a)) (unitF (vecW n b)) (unitF (vecW n c)) (unitF (vecW n d))
def gD (n : Nat) (a b : DirZ) : Nat := gapF (unitF (vecW n a)) (unitF (vecW n b))
theorem aD_rot {n : Nat} (hn : 1 ≤ n) (hn' : n ≤ 32) {a b c d : DirZ} (ha : OnCube n a) (hb : OnCube n b) (hc : OnCube n c) (hd : OnCube n d) : aD n d a b c = aD n a b c d :=
  area_rot (unit_pt hn hn' ha) (unit_pt hn hn' hb) (unit_pt hn hn' hc) (unit_pt hn hn' hd)
theorem aD_tD {n t : Nat} (hn : 1 ≤ n) (hn' : n ≤ 32) (ht : t < 24) {a b c d : DirZ} (ha : OnCube n a) (hb : OnCube n b) (hc : OnCube n c) (hd : OnCube n d) : aD n (tD t a) (tD t b) (tD t c) (tD t d) = aD n a b c d := area_tD hn hn' ht ha hb hc hd
def cD (n f : Nat) (i j : Nat) : DirZ := dirF n f (2 * i - n) (2 * j - n)
theorem area_cD {n f i j : Nat} (hn : 1 ≤ n) (hn' : n ≤ 32) (hi : i < n) (hj : j < n) : areaX (cornerF n f i j) (cornerF n f (i + 1) j) (cornerF n f (i + 1) (j + 1)) (cornerF n f i (j + 1)) = aD n (cD n f i j) (cD n f (i + 1) j) (cD n f (i + 1) (j + 1)) (cD n f i (j + 1)) := by
  rw [corner_dir hn hn' (show i ≤ n by omega) (show j ≤ n by omega), corner_dir hn hn' (show i + 1 ≤ n by omega) (show j ≤ n by omega), corner_dir hn hn' (show i + 1 ≤ n by omega) (show j + 1 ≤ n by omega), corner_dir hn hn' (show i ≤ n by omega) (show j + 1 ≤ n by omega)]
  rfl
section
variable {n t f i j s : Nat} (hn : 1 ≤ n) (hn' : n ≤ 32) (ht : t < 24) (hf : f < 6) (hi : i < n) (hj : j < n)
include hn hn' ht hf hi hj
theorem area_turn : areaT n (fa t f) (rotI n (qu t f) i j) (rotJ n (qu t f) i j) = areaT n f i j := by
  obtain ⟨hg, hq⟩ := fa_lt t ht f hf
  obtain ⟨r1, r2⟩ := rot_lt (q := qu t f) hi hj
  have hc : ∀ a b : Nat, a ≤ n → b ≤ n → OnCube n (cD n f a b) := fun a b ha hb => onCube f (by omega) (by omega)
  have o0 := hc i j (by omega) (by omega)
  have o1 := hc (i + 1) j (by omega) (by omega)
  have o2 := hc (i + 1) (j + 1) (by omega) (by omega)
  have o3 := hc i (j + 1) (by omega) (by omega)
  have hX : aD n (cD n (fa t f) (rotI n (qu t f) i j) (rotJ n (qu t f) i j)) (cD n (fa t f) (rotI n (qu t f) i j + 1) (rotJ n (qu t f) i j)) (cD n (fa t f) (rotI n (qu t f) i j + 1) (rotJ n (qu t f) i j + 1)) (cD n (fa t f) (rotI n (qu t f) i j) (rotJ n (qu t f) i j + 1)) =
      aD n (cD n f i j) (cD n f (i + 1) j) (cD n f (i + 1) (j + 1)) (cD n f i (j + 1)) := by
    have T : ∀ q, qu t f = q → ∀ a b a' b' : Nat, (2 * (a' : Int) - n = rkT q (2 * a - n) (2 * b - n)) → (2 * (b' : Int) - n = rlT q (2 * a - n) (2 * b - n)) → cD n (fa t f) a' b' = tD t (cD n f a b) := by
      intro q h a b a' b' h1 h2
      unfold cD
      rw [dir_turn ht hf, h]
      exact dirF_congr h1 h2
    obtain h | h | h | h : qu t f = 0 ∨ qu t f = 1 ∨ qu t f = 2 ∨ qu t f = 3 := by omega
    · have T := T 0 h
      rw [h, rot_0.1, rot_0.2]
      rw [T i j i j (by simp [rkT]) (by simp [rlT]), T (i + 1) j (i + 1) j (by simp [rkT]) (by simp [rlT]), T (i + 1) (j + 1) (i + 1) (j + 1) (by simp [rkT]) (by simp [rlT]), T i (j + 1) i (j + 1) (by simp [rkT]) (by simp [rlT])]
      exact aD_tD hn hn' ht o0 o1 o2 o3
    · have T := T 1 h
      rw [h, rot_1.1, rot_1.2]
      rw [T i (j + 1) (n - 1 - j) i (by simp [rkT]; omega) (by simp [rlT]), T i j (n - 1 - j + 1) i (by simp [rkT]; omega) (by simp [rlT]), T (i + 1) j (n - 1 - j + 1) (i + 1) (by simp [rkT]; omega) (by simp [rlT]), T (i + 1) (j + 1) (n - 1 - j) (i + 1) (by simp [rkT]; omega) (by simp [rlT])]
      rw [aD_tD hn hn' ht o3 o0 o1 o2, aD_rot hn hn' o0 o1 o2 o3]
    · have T := T 2 h
      rw [h, rot_2.1, rot_2.2]
      rw [T (i + 1) (j + 1) (n - 1 - i) (n - 1 - j) (by simp [rkT]; omega) (by simp [rlT]; omega), T i (j + 1) (n - 1 - i + 1) (n - 1 - j) (by simp [rkT]; omega) (by simp [rlT]; omega), T i j (n - 1 - i + 1) (n - 1 - j + 1) (by simp [rkT]; omega) (by simp [rlT]; omega), T (i + 1) j (n - 1 - i) (n - 1 - j + 1) (by simp [rkT]; omega) (by simp [rlT]; omega)]
      rw [aD_tD hn hn' ht o2 o3 o0 o1, aD_rot hn hn' o3 o0 o1 o2, aD_rot hn hn' o0 o1 o2 o3]
    · have T := T 3 h
      rw [h, rot_3.1, rot_3.2]
      rw [T (i + 1) j j (n - 1 - i) (by simp [rkT]) (by simp [rlT]; omega), T (i + 1) (j + 1) (j + 1) (n - 1 - i) (by simp [rkT]) (by simp [rlT]; omega), T i (j + 1) (j + 1) (n - 1 - i + 1) (by simp [rkT]) (by simp [rlT]; omega), T i j j (n - 1 - i + 1) (by simp [rkT]) (by simp [rlT]; omega)]
      rw [aD_tD hn hn' ht o1 o2 o3 o0, aD_rot hn hn' o2 o3 o0 o1, aD_rot hn hn' o3 o0 o1 o2, aD_rot hn hn' o0 o1 o2 o3]
  rw [areaT_X, areaT_X, area_cD hn hn' r1 r2, area_cD hn hn' hi hj, hX]
theorem len_turn (hs : s < 4) : lenS n (fa t f) (rotI n (qu t f) i j) (rotJ n (qu t f) i j) ((s + qu t f) % 4) = lenS n f i j s := by
  obtain ⟨hg, hq⟩ := fa_lt t ht f hf
  obtain ⟨r1, r2⟩ := rot_lt (q := qu t f) hi hj
  rw [lenS_ends hn hn' r1 r2, lenS_ends hn hn' hi hj]
  obtain ⟨oA, oB⟩ := endA_on (f := f) (s := s) hi hj
  have key : (endA n (fa t f) (rotI n (qu t f) i j) (rotJ n (qu t f) i j) ((s + qu t f) % 4) = tD t (endA n f i j s) ∧ endB n (fa t f) (rotI n (qu t f) i j) (rotJ n (qu t f) i j) ((s + qu t f) % 4) = tD t (endB n f i j s)) ∨
      (endA n (fa t f) (rotI n (qu t f) i j) (rotJ n (qu t f) i j) ((s + qu t f) % 4) = tD t (endB n f i j s) ∧ endB n (fa t f) (rotI n (qu t f) i j) (rotJ n (qu t f) i j) ((s + qu t f) % 4) = tD t (endA n f i j s)) := by
    have T : ∀ q, qu t f = q → ∀ k l k' l' : Int, k' = rkT q k l → l' = rlT q k l → dirF n (fa t f) k' l' = tD t (dirF n f k l) := by
      intro q h k l k' l' h1 h2
      rw [dir_turn ht hf, h]
      exact dirF_congr h1 h2
    obtain h | h | h | h : qu t f = 0 ∨ qu t f = 1 ∨ qu t f = 2 ∨ qu t f = 3 := by omega
    · have T := T 0 h
      rw [h, rot_0.1, rot_0.2]
      obtain rfl | rfl | rfl | rfl := four hs
      all_goals exact .inl ⟨T _ _ _ _ rfl rfl, T _ _ _ _ rfl rfl⟩
    · have T := T 1 h
      rw [h, rot_1.1, rot_1.2]
      obtain rfl | rfl | rfl | rfl := four hs
      · exact .inr ⟨T _ _ _ _ (by simp [rkT]; omega) (by simp [rlT]), T _ _ _ _ (by simp [rkT]; omega) (by simp [rlT])⟩
      · exact .inl ⟨T _ _ _ _ (by simp [rkT]; omega) (by simp [rlT]), T _ _ _ _ (by simp [rkT]; omega) (by simp [rlT])⟩
      · exact .inr ⟨T _ _ _ _ (by simp [rkT]; omega) (by simp [rlT]), T _ _ _ _ (by simp [rkT]; omega) (by simp [rlT])⟩
      · exact .inl ⟨T _ _ _ _ (by simp [rkT]; omega) (by simp [rlT]), T _ _ _ _ (by simp [rkT]; omega) (by simp [rlT])⟩
    · have T := T 2 h
      rw [h, rot_2.1, rot_2.2]
      obtain rfl | rfl | rfl | rfl := four hs
      all_goals exact .inr ⟨T _ _ _ _ (by simp [rkT]; omega) (by simp [rlT]; omega), T _ _ _ _ (by simp [rkT]; omega) (by simp [rlT]; omega)⟩
    · have T := T 3 h
      rw [h, rot_3.1, rot_3.2]
      obtain rfl | rfl | rfl | rfl := four hs
      · exact .inl ⟨T _ _ _ _ (by simp [rkT]) (by simp [rlT]; omega), T _ _ _ _ (by simp [rkT]) (by simp [rlT]; omega)⟩
      · exact .inr ⟨T _ _ _ _ (by simp [rkT]) (by simp [rlT]; omega), T _ _ _ _ (by simp [rkT]) (by simp [rlT]; omega)⟩
      · exact .inl ⟨T _ _ _ _ (by simp [rkT]) (by simp [rlT]; omega), T _ _ _ _ (by simp [rkT]) (by simp [rlT]; omega)⟩
      · exact .inr ⟨T _ _ _ _ (by simp [rkT]) (by simp [rlT]; omega), T _ _ _ _ (by simp [rkT]) (by simp [rlT]; omega)⟩
  rcases key with ⟨h1, h2⟩ | ⟨h1, h2⟩
  · rw [h1, h2]; exact gap_tD hn hn' ht oA oB
  · rw [h1, h2, gap_tD hn hn' ht oB oA]; exact gap_symm hn hn' oA oB
theorem gap_turn (hs : s < 4) : gapS n (fa t f) (rotI n (qu t f) i j) (rotJ n (qu t f) i j) ((s + qu t f) % 4) = gapS n f i j s := by
  have hmid : ∀ f i j, f < 6 → i < n → j < n → middleF n (fa t f) (rotI n (qu t f) i j) (rotJ n (qu t f) i j) = unitF (vecW n (tD t (dirF n f (2 * i + 1 - n) (2 * j + 1 - n)))) ∧ middleF n f i j = unitF (vecW n (dirF n f (2 * i + 1 - n) (2 * j + 1 - n))) ∧ OnCube n (dirF n f (2 * i + 1 - n) (2 * j + 1 - n)) := by
    intro f i j hf hi hj
    obtain ⟨hg, hq⟩ := fa_lt t ht f hf
    obtain ⟨r1, r2⟩ := rot_lt (q := qu t f) hi hj
    refine ⟨?_, middle_dir hn hn' hi hj, onCube f (by omega) (by omega)⟩
    have hd : dirF n (fa t f) (2 * (rotI n (qu t f) i j : Nat) + 1 - n) (2 * (rotJ n (qu t f) i j : Nat) + 1 - n) = tD t (dirF n f (2 * i + 1 - n) (2 * j + 1 - n)) := by
      rw [dir_turn ht hf]
      obtain h | h | h | h : qu t f = 0 ∨ qu t f = 1 ∨ qu t f = 2 ∨ qu t f = 3 := by omega
      · rw [h, rot_0.1, rot_0.2]; rfl
      · rw [h, rot_1.1, rot_1.2]; exact dirF_congr (by simp [rkT]; omega) (by simp [rlT])
      · rw [h, rot_2.1, rot_2.2]; exact dirF_congr (by simp [rkT]; omega) (by simp [rlT]; omega)
      · rw [h, rot_3.1, rot_3.2]; exact dirF_congr (by simp [rkT]) (by simp [rlT]; omega)
    rw [middle_dir hn hn' r1 r2, hd]
  obtain ⟨b1, b2, b3, b4⟩ := nb_lt (s := s) hf hi hj
  unfold gapS
  rw [nb_turn ht hf hi hj hs]
  unfold tuS
  simp only
  obtain ⟨e1, e2, e3⟩ := hmid f i j hf hi hj
  obtain ⟨k1, k2, k3⟩ := hmid _ _ _ b1 b2 b3
  rw [e1, e2, k1, k2]
  exact gap_tD hn hn' ht e3 k3
end
end Go.Proofs.YtemaeembndobaaaGreatDoor
