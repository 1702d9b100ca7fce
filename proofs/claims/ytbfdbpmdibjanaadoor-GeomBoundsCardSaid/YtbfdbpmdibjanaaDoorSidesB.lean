/- GeomSides: the walk of the law. No condition. -/
import Derived.Test.YtbfdbpmdibjanaaDoorSides
import Derived.Test.YtbfdbpmdibjanaaDoorV
namespace Go.Proofs.YtbfdbpmdibjanaaDoor
open Go Go.Eng
set_option maxRecDepth 100000
set_option linter.unusedSimpArgs false
set_option linter.unusedVariables false

theorem net08_ok (side cell : Int) : ∃ n f i j : Nat, 1 ≤ n ∧ n ≤ 32 ∧ f < 6 ∧ i < n ∧ j < n ∧ ∀ m, COk Tryd.prog 3 13 [I side, I cell] m (.tup [I n, I (cellN n f i j)]) m := by
  obtain ⟨a, ha, _⟩ := u64_nat side
  obtain ⟨b, hb, _⟩ := u64_nat cell
  have hm := Nat.mod_lt a (show 0 < 32 by decide)
  generalize hr : a % 32 = r at hm
  have hpos : 0 < (1 + r) * (1 + r) := Nat.mul_pos (by omega) (by omega)
  have hle : (1 + r) * (1 + r) ≤ 32 * 32 := Nat.mul_le_mul (by omega) (by omega)
  have hk := Nat.mod_lt b (show 0 < 6 * ((1 + r) * (1 + r)) by omega)
  generalize hc : b % (6 * ((1 + r) * (1 + r))) = c at hk
  obtain ⟨n, f, i, j, en, h0, hn, hn', h1, h2, h3⟩ := cell_split (side := ((1 + r : Nat) : Int)) (cell := (c : Int)) ⟨by omega, by
    rw [cellsI, if_pos ⟨by omega, by omega⟩]
    have : ((1 + r : Nat) : Int) * ((1 + r : Nat) : Int) = (((1 + r) * (1 + r) : Nat) : Int) := by simp
    rw [this]; omega⟩
  obtain rfl : n = 1 + r := by omega
  have h0 : c = cellN (1 + r) f i j := by omega
  refine ⟨1 + r, f, i, j, by omega, by omega, h1, h2, h3, fun m => ?_⟩
  rw [← h0]
  refine COk_quiet Tryd.f13 Tryd.func13 (by kernel_rfl) rfl ?_
  conv => whnf
  have e1 : IntKind.i64.wrap (1 + IntKind.i64.wrap ((IntKind.u64.wrap side).tmod 32)) = ((1 + r : Nat) : Int) := by
    rw [ha, show (a : Int).tmod 32 = ((a % 32 : Nat) : Int) from (Int.ofNat_tmod a 32).symm, hr, wrap_id (n := (r : Int)) (by omega) (by omega), wrap_id (by omega) (by omega)]
    omega
  rw [e1]
  have e2 : IntKind.u64.wrap (IntKind.i64.wrap (IntKind.i64.wrap (6 * ((1 + r : Nat) : Int)) * ((1 + r : Nat) : Int))) = ((6 * ((1 + r) * (1 + r)) : Nat) : Int) := by
    have e : 6 * ((1 + r : Nat) : Int) * ((1 + r : Nat) : Int) = ((6 * ((1 + r) * (1 + r)) : Nat) : Int) := by rw [Int.mul_assoc]; simp
    rw [wrap_id (n := 6 * ((1 + r : Nat) : Int)) (by omega) (by omega), e, wrap_id (by omega) (by omega), wrap_u (by omega) (by omega)]
  rw [e2]
  refine br_yes (by rw [bne_iff_ne]; omega) ?_
  conv => whnf
  refine ⟨?_, [], by simp⟩
  rw [hb, show (b : Int).tmod ((6 * ((1 + r) * (1 + r)) : Nat) : Int) = ((b % (6 * ((1 + r) * (1 + r))) : Nat) : Int) from (Int.ofNat_tmod b _).symm, hc, wrap_id (n := (c : Int)) (by omega) (by omega)]
theorem side_mod (over : Int) : ∃ s : Nat, s < 4 ∧ IntKind.i64.wrap ((IntKind.u64.wrap over).tmod 4) = s := by
  obtain ⟨a, ha, _⟩ := u64_nat over
  refine ⟨a % 4, Nat.mod_lt _ (by decide), ?_⟩
  rw [ha, show (a : Int).tmod 4 = ((a % 4 : Nat) : Int) from (Int.ofNat_tmod a 4).symm, wrap_id (by omega) (by omega)]
/-- The walk, with the callees' answers as variables. -/
theorem sides_of (side cell over n c s to bk : Int) (a b x y p q : W) (l g : Nat) (hs : IntKind.i64.wrap ((IntKind.u64.wrap over).tmod 4) = s) (ht : 0 ≤ to) (hb : 0 ≤ bk ∧ bk ≤ 3)
    (hnet : ∀ m, COk Tryd.prog 3 13 [I side, I cell] m (.tup [I n, I c]) m)
    (hbe : ∀ x, COk Tryd.prog 3 14 [I n, I c, I s] (GG x) (.tup [I to, I bk]) (GG x))
    (h1 : ∀ z, COk Tryd.prog 3 15 [I n, I c, I s] (GG z) (.tup [a.v, b.v]) (GG z))
    (h2 : ∀ z, COk Tryd.prog 3 15 [I n, I to, I bk] (GG z) (.tup [x.v, y.v]) (GG z))
    (hxy : (a = x ∧ b = y) ∨ (b = x ∧ a = y))
    (hm : ∀ x, COk Tryd.prog 3 18 [I n, I c] (GG x) (.tup [p.v, Bo true]) (GG x))
    (hm2 : ∀ x, COk Tryd.prog 3 18 [I n, I to] (GG x) (.tup [q.v, Bo true]) (GG x))
    (hl : ∀ x, COk Tryd.prog 3 17 [I n, I c, I s] (GG x) (F l) (GG x))
    (hl2 : ∀ x, COk Tryd.prog 3 17 [I n, I to, I bk] (GG x) (F l) (GG x))
    (hg : ∀ x, COk Tryd.prog 3 19 [I n, I c, I s] (GG x) (F g) (GG x))
    (hg2 : ∀ x, COk Tryd.prog 3 19 [I n, I to, I bk] (GG x) (F g) (GG x))
    (kl : gapF a b = l) (kg : gapF p q = g) :
    COk Tryd.prog 3 3 [I side, I cell, I over] (GG []) (Bo true) (GG []) := by
  have sm : ∀ (u v : W) (z : List Blk), u = v → COk Tryd.prog 3 16 [u.v, v.v] (GG z) (Bo true) (GG z) := by
    intro u v z e
    have := samev_ok u v z
    rwa [decide_eq_true e] at this
  have sf : ∀ (u : Nat) (m : List Blk), COk Tryd.prog 3 20 [F u, F u] m (Bo true) m := by
    intro u m
    have := same_ok u u m
    rwa [decide_eq_true rfl] at this
  have hv : ∀ z, COk Tryd.prog 3 21 [a.v, b.v] (GG z) (F l) (GG z) := fun z => by rw [← kl]; exact vgap_ok a b z
  have hv2 : ∀ z, COk Tryd.prog 3 21 [p.v, q.v] (GG z) (F g) (GG z) := fun z => by rw [← kg]; exact vgap_ok p q z
  have sn : ∀ (z : List Blk), a ≠ b → COk Tryd.prog 3 16 [a.v, b.v] (GG z) (Bo false) (GG z) := by
    intro z e
    have := samev_ok a b z
    rwa [decide_eq_false e] at this
  refine COk_quiet Tryd.f3 Tryd.func3 (by kernel_rfl) rfl ?_
  conv => whnf
  refine ⟨_, _, awake_ok _, ?_⟩
  conv => whnf
  refine ⟨_, _, hnet _, ?_⟩
  conv => whnf
  rw [hs]
  (conv => whnf); repeat (first | (refine ⟨_, _, hbe _, ?_⟩; conv => whnf) | (refine ⟨_, hbe _, ?_⟩; conv => whnf) | (refine br_d (by omega) ?_; conv => whnf) | (refine br_nd (by omega) ?_; conv => whnf) | (refine br_eq (by omega) ?_; conv => whnf) | (refine br_neq (by omega) ?_; conv => whnf) | (refine br_ne (by omega) ?_; conv => whnf) | (refine br_no (bo_eqn (by omega)) ?_; conv => whnf) | (refine setB_app ?_; conv => whnf) | (refine setB_app0 ?_; conv => whnf) | (rw [getB_app]; conv => whnf) | (rw [getB_app0]; conv => whnf) | (refine addB_f8 ?_; conv => whnf) | (refine addB_f7 ?_; conv => whnf) | (refine addB_f6 ?_; conv => whnf) | (refine addB_f5 ?_; conv => whnf) | (refine addB_f4 ?_; conv => whnf) | (refine addB_f3 ?_; conv => whnf) | (refine addB_f2 ?_; conv => whnf) | (refine addB_f1 ?_; conv => whnf) | (refine addB_f0 ?_; conv => whnf))
  (conv => whnf); repeat (first | (refine ⟨_, _, h1 _, ?_⟩; conv => whnf) | (refine ⟨_, h1 _, ?_⟩; conv => whnf) | (refine ⟨_, _, h2 _, ?_⟩; conv => whnf) | (refine ⟨_, h2 _, ?_⟩; conv => whnf) | (refine br_d (by omega) ?_; conv => whnf) | (refine br_nd (by omega) ?_; conv => whnf) | (refine br_eq (by omega) ?_; conv => whnf) | (refine br_neq (by omega) ?_; conv => whnf) | (refine br_ne (by omega) ?_; conv => whnf) | (refine br_no (bo_eqn (by omega)) ?_; conv => whnf) | (refine setB_app ?_; conv => whnf) | (refine setB_app0 ?_; conv => whnf) | (rw [getB_app]; conv => whnf) | (rw [getB_app0]; conv => whnf) | (refine addB_f8 ?_; conv => whnf) | (refine addB_f7 ?_; conv => whnf) | (refine addB_f6 ?_; conv => whnf) | (refine addB_f5 ?_; conv => whnf) | (refine addB_f4 ?_; conv => whnf) | (refine addB_f3 ?_; conv => whnf) | (refine addB_f2 ?_; conv => whnf) | (refine addB_f1 ?_; conv => whnf) | (refine addB_f0 ?_; conv => whnf))
  rcases hxy with ⟨rfl, rfl⟩ | ⟨rfl, rfl⟩
  · (conv => whnf); repeat (first | (refine ⟨_, _, sm _ _ _ rfl, ?_⟩; conv => whnf) | (refine ⟨_, sm _ _ _ rfl, ?_⟩; conv => whnf) | (refine br_d (by omega) ?_; conv => whnf) | (refine br_nd (by omega) ?_; conv => whnf) | (refine br_eq (by omega) ?_; conv => whnf) | (refine br_neq (by omega) ?_; conv => whnf) | (refine br_ne (by omega) ?_; conv => whnf) | (refine br_no (bo_eqn (by omega)) ?_; conv => whnf) | (refine setB_app ?_; conv => whnf) | (refine setB_app0 ?_; conv => whnf) | (rw [getB_app]; conv => whnf) | (rw [getB_app0]; conv => whnf) | (refine addB_f8 ?_; conv => whnf) | (refine addB_f7 ?_; conv => whnf) | (refine addB_f6 ?_; conv => whnf) | (refine addB_f5 ?_; conv => whnf) | (refine addB_f4 ?_; conv => whnf) | (refine addB_f3 ?_; conv => whnf) | (refine addB_f2 ?_; conv => whnf) | (refine addB_f1 ?_; conv => whnf) | (refine addB_f0 ?_; conv => whnf))
    (conv => whnf); repeat (first | (refine ⟨_, _, hl _, ?_⟩; conv => whnf) | (refine ⟨_, hl _, ?_⟩; conv => whnf) | (refine ⟨_, _, hm _, ?_⟩; conv => whnf) | (refine ⟨_, hm _, ?_⟩; conv => whnf) | (refine ⟨_, _, hm2 _, ?_⟩; conv => whnf) | (refine ⟨_, hm2 _, ?_⟩; conv => whnf) | (refine ⟨_, _, hg _, ?_⟩; conv => whnf) | (refine ⟨_, hg _, ?_⟩; conv => whnf) | (refine ⟨_, _, hl2 _, ?_⟩; conv => whnf) | (refine ⟨_, hl2 _, ?_⟩; conv => whnf) | (refine ⟨_, _, hg2 _, ?_⟩; conv => whnf) | (refine ⟨_, hg2 _, ?_⟩; conv => whnf) | (refine ⟨_, _, sf _ _, ?_⟩; conv => whnf) | (refine ⟨_, sf _ _, ?_⟩; conv => whnf) | (refine ⟨_, _, hv _, ?_⟩; conv => whnf) | (refine ⟨_, hv _, ?_⟩; conv => whnf) | (refine ⟨_, _, hv2 _, ?_⟩; conv => whnf) | (refine ⟨_, hv2 _, ?_⟩; conv => whnf) | (refine br_d (by omega) ?_; conv => whnf) | (refine br_nd (by omega) ?_; conv => whnf) | (refine br_eq (by omega) ?_; conv => whnf) | (refine br_neq (by omega) ?_; conv => whnf) | (refine br_ne (by omega) ?_; conv => whnf) | (refine br_no (bo_eqn (by omega)) ?_; conv => whnf) | (refine setB_app ?_; conv => whnf) | (refine setB_app0 ?_; conv => whnf) | (rw [getB_app]; conv => whnf) | (rw [getB_app0]; conv => whnf) | (refine addB_f8 ?_; conv => whnf) | (refine addB_f7 ?_; conv => whnf) | (refine addB_f6 ?_; conv => whnf) | (refine addB_f5 ?_; conv => whnf) | (refine addB_f4 ?_; conv => whnf) | (refine addB_f3 ?_; conv => whnf) | (refine addB_f2 ?_; conv => whnf) | (refine addB_f1 ?_; conv => whnf) | (refine addB_f0 ?_; conv => whnf))
    exact ⟨rfl, _, rfl⟩
  · by_cases e : a = b
    · subst e
      (conv => whnf); repeat (first | (refine ⟨_, _, sm _ _ _ rfl, ?_⟩; conv => whnf) | (refine ⟨_, sm _ _ _ rfl, ?_⟩; conv => whnf) | (refine br_d (by omega) ?_; conv => whnf) | (refine br_nd (by omega) ?_; conv => whnf) | (refine br_eq (by omega) ?_; conv => whnf) | (refine br_neq (by omega) ?_; conv => whnf) | (refine br_ne (by omega) ?_; conv => whnf) | (refine br_no (bo_eqn (by omega)) ?_; conv => whnf) | (refine setB_app ?_; conv => whnf) | (refine setB_app0 ?_; conv => whnf) | (rw [getB_app]; conv => whnf) | (rw [getB_app0]; conv => whnf) | (refine addB_f8 ?_; conv => whnf) | (refine addB_f7 ?_; conv => whnf) | (refine addB_f6 ?_; conv => whnf) | (refine addB_f5 ?_; conv => whnf) | (refine addB_f4 ?_; conv => whnf) | (refine addB_f3 ?_; conv => whnf) | (refine addB_f2 ?_; conv => whnf) | (refine addB_f1 ?_; conv => whnf) | (refine addB_f0 ?_; conv => whnf))
      (conv => whnf); repeat (first | (refine ⟨_, _, hl _, ?_⟩; conv => whnf) | (refine ⟨_, hl _, ?_⟩; conv => whnf) | (refine ⟨_, _, hm _, ?_⟩; conv => whnf) | (refine ⟨_, hm _, ?_⟩; conv => whnf) | (refine ⟨_, _, hm2 _, ?_⟩; conv => whnf) | (refine ⟨_, hm2 _, ?_⟩; conv => whnf) | (refine ⟨_, _, hg _, ?_⟩; conv => whnf) | (refine ⟨_, hg _, ?_⟩; conv => whnf) | (refine ⟨_, _, hl2 _, ?_⟩; conv => whnf) | (refine ⟨_, hl2 _, ?_⟩; conv => whnf) | (refine ⟨_, _, hg2 _, ?_⟩; conv => whnf) | (refine ⟨_, hg2 _, ?_⟩; conv => whnf) | (refine ⟨_, _, sf _ _, ?_⟩; conv => whnf) | (refine ⟨_, sf _ _, ?_⟩; conv => whnf) | (refine ⟨_, _, hv _, ?_⟩; conv => whnf) | (refine ⟨_, hv _, ?_⟩; conv => whnf) | (refine ⟨_, _, hv2 _, ?_⟩; conv => whnf) | (refine ⟨_, hv2 _, ?_⟩; conv => whnf) | (refine br_d (by omega) ?_; conv => whnf) | (refine br_nd (by omega) ?_; conv => whnf) | (refine br_eq (by omega) ?_; conv => whnf) | (refine br_neq (by omega) ?_; conv => whnf) | (refine br_ne (by omega) ?_; conv => whnf) | (refine br_no (bo_eqn (by omega)) ?_; conv => whnf) | (refine setB_app ?_; conv => whnf) | (refine setB_app0 ?_; conv => whnf) | (rw [getB_app]; conv => whnf) | (rw [getB_app0]; conv => whnf) | (refine addB_f8 ?_; conv => whnf) | (refine addB_f7 ?_; conv => whnf) | (refine addB_f6 ?_; conv => whnf) | (refine addB_f5 ?_; conv => whnf) | (refine addB_f4 ?_; conv => whnf) | (refine addB_f3 ?_; conv => whnf) | (refine addB_f2 ?_; conv => whnf) | (refine addB_f1 ?_; conv => whnf) | (refine addB_f0 ?_; conv => whnf))
      exact ⟨rfl, _, rfl⟩
    · (conv => whnf); repeat (first | (refine ⟨_, _, sn _ e, ?_⟩; conv => whnf) | (refine ⟨_, sn _ e, ?_⟩; conv => whnf) | (refine ⟨_, _, sm _ _ _ rfl, ?_⟩; conv => whnf) | (refine ⟨_, sm _ _ _ rfl, ?_⟩; conv => whnf) | (refine br_d (by omega) ?_; conv => whnf) | (refine br_nd (by omega) ?_; conv => whnf) | (refine br_eq (by omega) ?_; conv => whnf) | (refine br_neq (by omega) ?_; conv => whnf) | (refine br_ne (by omega) ?_; conv => whnf) | (refine br_no (bo_eqn (by omega)) ?_; conv => whnf) | (refine setB_app ?_; conv => whnf) | (refine setB_app0 ?_; conv => whnf) | (rw [getB_app]; conv => whnf) | (rw [getB_app0]; conv => whnf) | (refine addB_f8 ?_; conv => whnf) | (refine addB_f7 ?_; conv => whnf) | (refine addB_f6 ?_; conv => whnf) | (refine addB_f5 ?_; conv => whnf) | (refine addB_f4 ?_; conv => whnf) | (refine addB_f3 ?_; conv => whnf) | (refine addB_f2 ?_; conv => whnf) | (refine addB_f1 ?_; conv => whnf) | (refine addB_f0 ?_; conv => whnf))
      (conv => whnf); repeat (first | (refine ⟨_, _, hl _, ?_⟩; conv => whnf) | (refine ⟨_, hl _, ?_⟩; conv => whnf) | (refine ⟨_, _, hm _, ?_⟩; conv => whnf) | (refine ⟨_, hm _, ?_⟩; conv => whnf) | (refine ⟨_, _, hm2 _, ?_⟩; conv => whnf) | (refine ⟨_, hm2 _, ?_⟩; conv => whnf) | (refine ⟨_, _, hg _, ?_⟩; conv => whnf) | (refine ⟨_, hg _, ?_⟩; conv => whnf) | (refine ⟨_, _, hl2 _, ?_⟩; conv => whnf) | (refine ⟨_, hl2 _, ?_⟩; conv => whnf) | (refine ⟨_, _, hg2 _, ?_⟩; conv => whnf) | (refine ⟨_, hg2 _, ?_⟩; conv => whnf) | (refine ⟨_, _, sf _ _, ?_⟩; conv => whnf) | (refine ⟨_, sf _ _, ?_⟩; conv => whnf) | (refine ⟨_, _, hv _, ?_⟩; conv => whnf) | (refine ⟨_, hv _, ?_⟩; conv => whnf) | (refine ⟨_, _, hv2 _, ?_⟩; conv => whnf) | (refine ⟨_, hv2 _, ?_⟩; conv => whnf) | (refine br_d (by omega) ?_; conv => whnf) | (refine br_nd (by omega) ?_; conv => whnf) | (refine br_eq (by omega) ?_; conv => whnf) | (refine br_neq (by omega) ?_; conv => whnf) | (refine br_ne (by omega) ?_; conv => whnf) | (refine br_no (bo_eqn (by omega)) ?_; conv => whnf) | (refine setB_app ?_; conv => whnf) | (refine setB_app0 ?_; conv => whnf) | (rw [getB_app]; conv => whnf) | (rw [getB_app0]; conv => whnf) | (refine addB_f8 ?_; conv => whnf) | (refine addB_f7 ?_; conv => whnf) | (refine addB_f6 ?_; conv => whnf) | (refine addB_f5 ?_; conv => whnf) | (refine addB_f4 ?_; conv => whnf) | (refine addB_f3 ?_; conv => whnf) | (refine addB_f2 ?_; conv => whnf) | (refine addB_f1 ?_; conv => whnf) | (refine addB_f0 ?_; conv => whnf))
      exact ⟨rfl, _, rfl⟩
theorem sides08_ok (side cell over : Int) : COk Tryd.prog 3 3 [I side, I cell, I over] (GG []) (Bo true) (GG []) := by
  obtain ⟨n, f, i, j, hn, hn', hf, hi, hj, hnet⟩ := net08_ok side cell
  obtain ⟨s, hs, hso⟩ := side_mod over
  obtain ⟨k1, k2, k3, k4⟩ := nb_lt (s := s) hf hi hj
  have o := endA_on (f := f) (s := s) hi hj
  refine sides_of side cell over n (cellN n f i j) s (cellN n (nb n f i j s).1 (nb n f i j s).2.1 (nb n f i j s).2.2.1) (nb n f i j s).2.2.2 _ _ _ _ _ _ (lenS n f i j s) (gapS n f i j s) hso (by omega) ⟨by omega, by omega⟩ hnet
    (beside_ok n f i j s hn hn' hf hi hj hs) (ends_ok n f i j s hn hn' hf hi hj hs) (ends_ok n _ _ _ _ hn hn' k1 k2 k3 k4) ?_ (middle_in n f i j hn hn' hf hi hj) (middle_in n _ _ _ hn hn' k1 k2 k3)
    (glen_in n f i j s hn hn' hf hi hj hs) ?_ (ggap_in n f i j s hn hn' hf hi hj hs) ?_ ?_ rfl
  · rcases ends_nb hf hi hj hs with ⟨h1, h2⟩ | ⟨h1, h2⟩
    · exact .inl ⟨by rw [h1], by rw [h2]⟩
    · exact .inr ⟨by rw [h1], by rw [h2]⟩
  · intro x
    have := glen_in n _ _ _ _ hn hn' k1 k2 k3 k4 x
    rwa [lenS_nb hn hn' hf hi hj hs] at this
  · intro x
    have := ggap_in n _ _ _ _ hn hn' k1 k2 k3 k4 x
    rwa [gapS_nb hn hn' hf hi hj hs] at this
  · exact (lenS_ends hn hn' hi hj).symm
end Go.Proofs.YtbfdbpmdibjanaaDoor
