/- GeomBounds: its contract. No condition. -/
import Derived.Test.YtbfdbpmdibjanaaDoorBh
import Derived.Test.YtbfdbpmdibjanaaDoorSidesB
namespace Go.Proofs.YtbfdbpmdibjanaaDoor
open Go Go.Eng
set_option maxRecDepth 100000
set_option linter.unusedSimpArgs false
set_option linter.unusedVariables false

theorem vR_two : vR 4611686018427387904 = 2 := by
  have e : vR 4611686018427387904 = mg (2 ^ 52) (-51) := by
    unfold vR
    rw [if_neg (by decide)]
    have e1 : 2 ^ 52 + 4611686018427387904 % 2 ^ 52 = 2 ^ 52 := by decide
    have e2 : 4611686018427387904 / 2 ^ 52 - 1 = 1023 := by decide
    rw [e1, e2]
    congr 1
  have h := two_add (-51) 51
  rw [show (-51 : Int) + 51 = 0 by decide, two_0, show (2 : Rat) ^ (51 : Int) = 2251799813685248 from (two_nat 51).trans rfl] at h
  rw [e]
  unfold mg
  rw [show ((2 ^ 52 : Nat) : Rat) = 4503599627370496 from rfl]
  grind
theorem le_two {R : Nat} (hR : R < infR) (h : vR R ≤ 2) : fle (some R) (some 4611686018427387904) = true := by
  have := fle_sg false false hR (Q := 4611686018427387904) (by decide) (by rw [vR_two]; exact h)
  rwa [wd_false, wd_false] at this
theorem bounds_of (side cell over n c s : Int) (a : Int) (p u v : W) (l g : Nat) (hs : IntKind.i64.wrap ((IntKind.u64.wrap over).tmod 4) = s)
    (ha1 : 1 ≤ a) (ha2 : a ≤ 2147483648) (l1 : fgt (some l) (some 0) = true) (l2 : fle (some l) (some 4611686018427387904) = true) (g1 : fgt (some g) (some 0) = true) (g2 : fle (some g) (some 4611686018427387904) = true)
    (hnet : ∀ m, COk Tryd.prog 3 13 [I side, I cell] m (.tup [I n, I c]) m)
    (ha : ∀ x, COk Tryd.prog 3 22 [I n, I c] (GG x) (I a) (GG x))
    (hl : ∀ x, COk Tryd.prog 3 17 [I n, I c, I s] (GG x) (F l) (GG x))
    (hg : ∀ x, COk Tryd.prog 3 19 [I n, I c, I s] (GG x) (F g) (GG x))
    (hm : ∀ x, COk Tryd.prog 3 18 [I n, I c] (GG x) (.tup [p.v, Bo true]) (GG x))
    (he : ∀ z, COk Tryd.prog 3 15 [I n, I c, I s] (GG z) (.tup [u.v, v.v]) (GG z))
    (np : ∀ x, COk Tryd.prog 3 23 [p.v] (GG x) (Bo true) (GG x))
    (nu : ∀ x, COk Tryd.prog 3 23 [u.v] (GG x) (Bo true) (GG x))
    (nv : ∀ x, COk Tryd.prog 3 23 [v.v] (GG x) (Bo true) (GG x)) :
    COk Tryd.prog 3 4 [I side, I cell, I over] (GG []) (Bo true) (GG []) := by
  have k1 : decide (a ≥ 1) = true := decide_eq_true ha1
  have k2 : decide (a ≤ 2147483648) = true := decide_eq_true ha2
  refine COk_quiet Tryd.f4 Tryd.func4 (by kernel_rfl) rfl ?_
  (conv => whnf); repeat (first | (refine ⟨_, _, awake_ok _, ?_⟩; conv => whnf) | (refine ⟨_, awake_ok _, ?_⟩; conv => whnf) | (refine ⟨_, _, hnet _, ?_⟩; conv => whnf) | (refine ⟨_, hnet _, ?_⟩; conv => whnf) | (rw [hs]; conv => whnf) | (refine ⟨_, _, ha _, ?_⟩; conv => whnf) | (refine ⟨_, ha _, ?_⟩; conv => whnf) | (refine ⟨_, _, hl _, ?_⟩; conv => whnf) | (refine ⟨_, hl _, ?_⟩; conv => whnf) | (refine ⟨_, _, hg _, ?_⟩; conv => whnf) | (refine ⟨_, hg _, ?_⟩; conv => whnf) | (refine ⟨_, _, hm _, ?_⟩; conv => whnf) | (refine ⟨_, hm _, ?_⟩; conv => whnf) | (refine ⟨_, _, he _, ?_⟩; conv => whnf) | (refine ⟨_, he _, ?_⟩; conv => whnf) | (refine ⟨_, _, np _, ?_⟩; conv => whnf) | (refine ⟨_, np _, ?_⟩; conv => whnf) | (refine ⟨_, _, nu _, ?_⟩; conv => whnf) | (refine ⟨_, nu _, ?_⟩; conv => whnf) | (refine ⟨_, _, nv _, ?_⟩; conv => whnf) | (refine ⟨_, nv _, ?_⟩; conv => whnf) | (rw [k1]; conv => whnf) | (rw [k2]; conv => whnf) | (rw [l1]; conv => whnf) | (rw [l2]; conv => whnf) | (rw [g1]; conv => whnf) | (rw [g2]; conv => whnf) | (refine br_d (by omega) ?_; conv => whnf) | (refine br_nd (by omega) ?_; conv => whnf) | (refine br_eq (by omega) ?_; conv => whnf) | (refine br_neq (by omega) ?_; conv => whnf) | (refine br_ne (by omega) ?_; conv => whnf) | (refine br_no (bo_eqn (by omega)) ?_; conv => whnf) | (refine setB_app ?_; conv => whnf) | (refine setB_app0 ?_; conv => whnf) | (rw [getB_app]; conv => whnf) | (rw [getB_app0]; conv => whnf) | (refine addB_f8 ?_; conv => whnf) | (refine addB_f7 ?_; conv => whnf) | (refine addB_f6 ?_; conv => whnf) | (refine addB_f5 ?_; conv => whnf) | (refine addB_f4 ?_; conv => whnf) | (refine addB_f3 ?_; conv => whnf) | (refine addB_f2 ?_; conv => whnf) | (refine addB_f1 ?_; conv => whnf) | (refine addB_f0 ?_; conv => whnf))
  exact ⟨rfl, _, rfl⟩
theorem bounds08_ok (side cell over : Int) : COk Tryd.prog 3 4 [I side, I cell, I over] (GG []) (Bo true) (GG []) := by
  obtain ⟨n, f, i, j, hn, hn', hf, hi, hj, hnet⟩ := net08_ok side cell
  obtain ⟨s, hs, hso⟩ := side_mod over
  have L := lenS_ne (f := f) (s := s) hn hn' hi hj
  have G := gapS_ne hn hn' hf hi hj hs
  obtain ⟨oA, oB⟩ := endA_on (f := f) (s := s) hi hj
  have nr : ∀ d, OnCube n d → ∀ x, COk Tryd.prog 3 23 [(unitF (vecW n d)).v] (GG x) (Bo true) (GG x) := by
    intro d hd x
    obtain ⟨N, e, h1, h2, h3, h4⟩ := unit_len hn hn' hd
    exact near_w _ ⟨x, rfl⟩ e h1 h2 h3 h4
  refine bounds_of side cell over n _ s (areaT n f i j) (middleF n f i j) _ _ (lenS n f i j s) (gapS n f i j s) hso (areaT_pos n f i j) (areaT_le hn hn' hf hi hj) (fgt_0 L.1 L.2) (le_two L.1 (lenS_two hn hn' hi hj)) (fgt_0 G.1 G.2) (le_two G.1 (gapS_two hn hn' hf hi hj hs)) hnet
    (area_at n f i j hn hn' hf hi hj) (glen_in n f i j s hn hn' hf hi hj hs) (ggap_in n f i j s hn hn' hf hi hj hs) (middle_in n f i j hn hn' hf hi hj) (ends_ok n f i j s hn hn' hf hi hj hs) ?_ (nr _ oA) (nr _ oB)
  rw [middle_dir hn hn' hi hj]
  exact nr _ (onCube f (by omega) (by omega))
end Go.Proofs.YtbfdbpmdibjanaaDoor
