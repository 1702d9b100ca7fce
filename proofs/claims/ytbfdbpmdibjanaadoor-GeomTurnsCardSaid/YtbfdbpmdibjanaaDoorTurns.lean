/- GeomTurns: its contract. No condition. -/
import Derived.Test.YtbfdbpmdibjanaaDoorTu
import Derived.Test.YtbfdbpmdibjanaaDoorTt
import Derived.Test.YtbfdbpmdibjanaaDoorSidesB
namespace Go.Proofs.YtbfdbpmdibjanaaDoor
open Go Go.Eng
set_option maxRecDepth 100000
set_option linter.unusedSimpArgs false
set_option linter.unusedVariables false

theorem turn_mod (turn : Int) : ∃ t : Nat, t < 24 ∧ IntKind.i64.wrap ((IntKind.u64.wrap turn).tmod 24) = t := by
  obtain ⟨a, ha, _⟩ := u64_nat turn
  refine ⟨a % 24, Nat.mod_lt _ (by decide), ?_⟩
  rw [ha, show (a : Int).tmod 24 = ((a % 24 : Nat) : Int) from (Int.ofNat_tmod a 24).symm, wrap_id (by omega) (by omega)]
theorem side_sum (s q : Nat) (hs : s < 4) (hq : q < 4) : IntKind.i64.wrap ((IntKind.u64.wrap (IntKind.i64.wrap ((s : Int) + q))).tmod 4) = (((s + q) % 4 : Nat) : Int) := by
  rw [show (s : Int) + q = ((s + q : Nat) : Int) by omega, wrap_id (n := ((s + q : Nat) : Int)) (by omega) (by omega), wrap_u (n := ((s + q : Nat) : Int)) (by omega) (by omega), show ((s + q : Nat) : Int).tmod 4 = (((s + q) % 4 : Nat) : Int) from (Int.ofNat_tmod (s + q) 4).symm, wrap_id (by omega) (by omega)]
theorem turns_of (side cell over turn n c s tu to q s' : Int) (a : Int) (l g : Nat) (hs : IntKind.i64.wrap ((IntKind.u64.wrap over).tmod 4) = s) (htu : IntKind.i64.wrap ((IntKind.u64.wrap turn).tmod 24) = tu)
    (hs' : IntKind.i64.wrap ((IntKind.u64.wrap (IntKind.i64.wrap (s + q))).tmod 4) = s')
    (hnet : ∀ m, COk Tryd.prog 3 13 [I side, I cell] m (.tup [I n, I c]) m)
    (hT : ∀ x, COk Tryd.prog 3 27 [I n, I tu, I c] (GG x) (.tup [I to, I q]) (GG x))
    (ha : ∀ x, COk Tryd.prog 3 22 [I n, I c] (GG x) (I a) (GG x))
    (ha2 : ∀ x, COk Tryd.prog 3 22 [I n, I to] (GG x) (I a) (GG x))
    (hl : ∀ x, COk Tryd.prog 3 17 [I n, I c, I s] (GG x) (F l) (GG x))
    (hl2 : ∀ x, COk Tryd.prog 3 17 [I n, I to, I s'] (GG x) (F l) (GG x))
    (hg : ∀ x, COk Tryd.prog 3 19 [I n, I c, I s] (GG x) (F g) (GG x))
    (hg2 : ∀ x, COk Tryd.prog 3 19 [I n, I to, I s'] (GG x) (F g) (GG x)) :
    COk Tryd.prog 3 6 [I side, I cell, I over, I turn] (GG []) (Bo true) (GG []) := by
  have sf : ∀ (u : Nat) (m : List Blk), COk Tryd.prog 3 20 [F u, F u] m (Bo true) m := by
    intro u m
    have := same_ok u u m
    rwa [decide_eq_true rfl] at this
  refine COk_quiet Tryd.f6 Tryd.func6 (by kernel_rfl) rfl ?_
  (conv => whnf); repeat (first | (refine ⟨_, _, awake_ok _, ?_⟩; conv => whnf) | (refine ⟨_, awake_ok _, ?_⟩; conv => whnf) | (refine ⟨_, _, hnet _, ?_⟩; conv => whnf) | (refine ⟨_, hnet _, ?_⟩; conv => whnf) | (rw [hs]; conv => whnf) | (rw [htu]; conv => whnf) | (refine ⟨_, _, hT _, ?_⟩; conv => whnf) | (refine ⟨_, hT _, ?_⟩; conv => whnf) | (rw [hs']; conv => whnf) | (refine ⟨_, _, ha _, ?_⟩; conv => whnf) | (refine ⟨_, ha _, ?_⟩; conv => whnf) | (refine ⟨_, _, ha2 _, ?_⟩; conv => whnf) | (refine ⟨_, ha2 _, ?_⟩; conv => whnf) | (refine br_eq rfl ?_; conv => whnf) | (refine ⟨_, _, hl _, ?_⟩; conv => whnf) | (refine ⟨_, hl _, ?_⟩; conv => whnf) | (refine ⟨_, _, hl2 _, ?_⟩; conv => whnf) | (refine ⟨_, hl2 _, ?_⟩; conv => whnf) | (refine ⟨_, _, sf _ _, ?_⟩; conv => whnf) | (refine ⟨_, sf _ _, ?_⟩; conv => whnf) | (refine ⟨_, _, hg _, ?_⟩; conv => whnf) | (refine ⟨_, hg _, ?_⟩; conv => whnf) | (refine ⟨_, _, hg2 _, ?_⟩; conv => whnf) | (refine ⟨_, hg2 _, ?_⟩; conv => whnf) | (refine br_d (by omega) ?_; conv => whnf) | (refine br_nd (by omega) ?_; conv => whnf) | (refine br_eq (by omega) ?_; conv => whnf) | (refine br_neq (by omega) ?_; conv => whnf) | (refine br_ne (by omega) ?_; conv => whnf) | (refine br_no (bo_eqn (by omega)) ?_; conv => whnf) | (refine setB_app ?_; conv => whnf) | (refine setB_app0 ?_; conv => whnf) | (rw [getB_app]; conv => whnf) | (rw [getB_app0]; conv => whnf) | (refine addB_f8 ?_; conv => whnf) | (refine addB_f7 ?_; conv => whnf) | (refine addB_f6 ?_; conv => whnf) | (refine addB_f5 ?_; conv => whnf) | (refine addB_f4 ?_; conv => whnf) | (refine addB_f3 ?_; conv => whnf) | (refine addB_f2 ?_; conv => whnf) | (refine addB_f1 ?_; conv => whnf) | (refine addB_f0 ?_; conv => whnf))
  exact ⟨rfl, _, rfl⟩
theorem turns08_ok (side cell over turn : Int) : COk Tryd.prog 3 6 [I side, I cell, I over, I turn] (GG []) (Bo true) (GG []) := by
  obtain ⟨n, f, i, j, hn, hn', hf, hi, hj, hnet⟩ := net08_ok side cell
  obtain ⟨s, hs, hso⟩ := side_mod over
  obtain ⟨t, ht, hto⟩ := turn_mod turn
  obtain ⟨hg, hq⟩ := fa_lt t ht f hf
  obtain ⟨r1, r2⟩ := rot_lt (q := qu t f) hi hj
  have hs4 : (s + qu t f) % 4 < 4 := Nat.mod_lt _ (by decide)
  refine turns_of side cell over turn n _ s t _ _ _ (areaT n f i j) (lenS n f i j s) (gapS n f i j s) hso hto (side_sum s (qu t f) hs hq) hnet (turn_walk n f i j t hn hn' hf hi hj ht)
    (area_at n f i j hn hn' hf hi hj) ?_ (glen_in n f i j s hn hn' hf hi hj hs) ?_ (ggap_in n f i j s hn hn' hf hi hj hs) ?_
  · intro x
    have := area_at n _ _ _ hn hn' hg r1 r2 x
    rwa [area_turn hn hn' ht hf hi hj] at this
  · intro x
    have := glen_in n _ _ _ _ hn hn' hg r1 r2 hs4 x
    rwa [len_turn hn hn' ht hf hi hj hs] at this
  · intro x
    have := ggap_in n _ _ _ _ hn hn' hg r1 r2 hs4 x
    rwa [gap_turn hn hn' ht hf hi hj hs] at this
end Go.Proofs.YtbfdbpmdibjanaaDoor
