/- GridTurned: its contract. No condition. -/
import Derived.Test.YtbfdbpmdibjanaaDoorTu
import Derived.Test.YtbfdbpmdibjanaaDoorTt
import Derived.Test.YtbfdbpmdibjanaaDoorJ9
namespace Go.Proofs.YtbfdbpmdibjanaaDoor
open Go Go.Eng
set_option maxRecDepth 100000
set_option linter.unusedSimpArgs false
set_option linter.unusedVariables false

theorem lenC_nb {n c s : Nat} (hn : 1 ≤ n) (hn' : n ≤ 32) (hc : c < 6 * (n * n)) (hs : s < 4) : lenC n (nbC n c s).1 (nbC n c s).2 = lenC n c s ∧ gapC n (nbC n c s).1 (nbC n c s).2 = gapC n c s := by
  obtain ⟨h0, h1, h2, h3⟩ := cell_parts hn hc
  obtain ⟨k1, k2, k3, k4⟩ := nb_lt (s := s) h1 h2 h3
  obtain ⟨p1, p2, p3⟩ := cellN_parts (f := (nb n (c / (n * n)) (c % n) (c / n % n) s).1) k2 k3
  have e1 := lenS_nb hn hn' h1 h2 h3 hs
  have e2 := gapS_nb hn hn' h1 h2 h3 hs
  unfold lenC gapC nbC
  simp only
  rw [p1, p2, p3]
  exact ⟨e1, e2⟩
/-- What lies over a side, and how long it is. -/
theorem around_len {n c s : Nat} (hn : 1 ≤ n) (hn' : n ≤ 32) (hc : c < 6 * (n * n)) (hs : s < 4) : ∃ (e : Nat) (w : Int),
    (∀ m b, Net m b n → COk Tryd.prog 3 34 [.ptr (b + 1) 0, I c, I s] m (.tup [I e, I w]) m) ∧
    (∀ m b, Net m b n → COk Tryd.prog 3 38 [.ptr (b + 1) 0, I e] m (F (lenC n c s)) m) ∧
    (∀ m b, Net m b n → COk Tryd.prog 3 39 [.ptr (b + 1) 0, I e] m (F (gapC n c s)) m) := by
  obtain ⟨e, y, w, hy, h, ha⟩ := around_at hn hc hs
  obtain ⟨q1, q2⟩ := lenC_nb hn hn' hc hs
  have h1 : lnE n y = lenC n c s ∧ gpE n y = gapC n c s := by
    rcases h with ⟨_, rfl, _⟩ | ⟨_, rfl, _⟩
    · exact ⟨rfl, rfl⟩
    · exact ⟨q1, q2⟩
  exact ⟨e, w, ha, fun m b N => by rw [← h1.1]; exact glength_ok N e y hy, fun m b N => by rw [← h1.2]; exact ggap_ok N e y hy⟩
theorem side_sum9 {k q : Nat} (hk : k < 4) (hq : q < 4) : (IntKind.i64.wrap ((k : Int) + q)).tmod 4 = (((k + q) % 4 : Nat) : Int) := by
  rw [wrap_id (by omega) (by omega), show (k : Int) + q = ((k + q : Nat) : Int) by omega, show ((k + q : Nat) : Int).tmod 4 = (((k + q) % 4 : Nat) : Int) from (Int.ofNat_tmod (k + q) 4).symm]
theorem same_yes (a : Nat) (m : List Blk) : COk Tryd.prog 3 20 [F a, F a] m (Bo true) m := by
  have := same_ok a a m
  rwa [decide_eq_true rfl] at this
set_option maxHeartbeats 0 in
theorem turned09_ok (side turn cell : Int) : COk Tryd.prog 3 11 [I side, I turn, I cell] (GG []) (Bo true) (GG []) := by
  obtain ⟨n, hn, hn', hnet⟩ := net_at side
  obtain ⟨B, M, hnet, hN, hsc, z, hM⟩ := hnet [] rfl
  have h1 := Nat.mul_pos hn hn
  have h2 : n * n ≤ 32 * 32 := Nat.mul_le_mul hn' hn'
  obtain ⟨t, ht, hwt⟩ := within_ok turn 24 (by omega) (by omega)
  obtain ⟨c, hc, hwc⟩ := within_ok cell (6 * (n * n)) (by omega) (by omega)
  obtain ⟨f, i, j, hf, hi, hj, rfl⟩ : ∃ f i j, f < 6 ∧ i < n ∧ j < n ∧ c = cellN n f i j := by
    obtain ⟨a1, a2, a3, a4⟩ := cell_parts hn hc
    exact ⟨_, _, _, a2, a3, a4, a1⟩
  obtain ⟨hg, hq⟩ := fa_lt t ht f hf
  obtain ⟨r1, r2⟩ := rot_lt (q := qu t f) hi hj
  obtain ⟨p1, p2, p3⟩ := cellN_parts (f := f) hi hj
  obtain ⟨u1, u2, u3⟩ := cellN_parts (f := fa t f) r1 r2
  have hd : cellN n (fa t f) (rotI n (qu t f) i j) (rotJ n (qu t f) i j) < 6 * (n * n) := cellN_lt hg r1 r2
  have hT := fun m (hm : ∃ x, m = GG x) => show COk Tryd.prog 3 27 [I n, I t, I (cellN n f i j : Nat)] m (.tup [I (cellN n (fa t f) (rotI n (qu t f) i j) (rotJ n (qu t f) i j) : Nat), I (qu t f)]) m by
    obtain ⟨x, rfl⟩ := hm
    exact turn_walk n f i j t hn hn' hf hi hj ht x
  have hT := hT M ⟨_, hM⟩
  have eA : areaC n (cellN n (fa t f) (rotI n (qu t f) i j) (rotJ n (qu t f) i j)) = areaC n (cellN n f i j) := by
    unfold areaC
    rw [p1, p2, p3, u1, u2, u3]
    exact area_turn hn hn' ht hf hi hj
  have eL : ∀ s, s < 4 → lenC n (cellN n (fa t f) (rotI n (qu t f) i j) (rotJ n (qu t f) i j)) ((s + qu t f) % 4) = lenC n (cellN n f i j) s := by
    intro s hs
    unfold lenC
    rw [p1, p2, p3, u1, u2, u3]
    exact len_turn hn hn' ht hf hi hj hs
  have eG : ∀ s, s < 4 → gapC n (cellN n (fa t f) (rotI n (qu t f) i j) (rotJ n (qu t f) i j)) ((s + qu t f) % 4) = gapC n (cellN n f i j) s := by
    intro s hs
    unfold gapC
    rw [p1, p2, p3, u1, u2, u3]
    exact gap_turn hn hn' ht hf hi hj hs
  generalize cellN n (fa t f) (rotI n (qu t f) i j) (rotJ n (qu t f) i j) = d at *
  generalize cellN n f i j = c at *
  have ha1 := area_ok hN c hc
  have ha2 := area_ok hN d hd
  rw [eA] at ha2
  obtain ⟨q, hqq⟩ : ∃ q, qu t f = q := ⟨_, rfl⟩
  rw [hqq] at hT eL eG hq
  generalize areaC n c = ar at *
  have hlt := hN.lt
  refine COk_quiet Tryd.f11 Tryd.func11 (by kernel_rfl) rfl ?_
  (conv => whnf); repeat (first | (refine ⟨_, _, awake09_ok [], ?_⟩; conv => whnf) | (refine ⟨_, awake09_ok [], ?_⟩; conv => whnf) | (refine ⟨_, _, hnet, ?_⟩; conv => whnf) | (refine ⟨_, hnet, ?_⟩; conv => whnf) | (refine ⟨_, _, side_ok hN, ?_⟩; conv => whnf) | (refine ⟨_, side_ok hN, ?_⟩; conv => whnf) | (refine ⟨_, _, hwt _, ?_⟩; conv => whnf) | (refine ⟨_, hwt _, ?_⟩; conv => whnf) | (refine ⟨_, _, gcells_ok hN, ?_⟩; conv => whnf) | (refine ⟨_, gcells_ok hN, ?_⟩; conv => whnf) | (refine ⟨_, _, hwc _, ?_⟩; conv => whnf) | (refine ⟨_, hwc _, ?_⟩; conv => whnf) | (refine ⟨_, _, hT, ?_⟩; conv => whnf) | (refine ⟨_, hT, ?_⟩; conv => whnf) | (refine ⟨_, _, ha1, ?_⟩; conv => whnf) | (refine ⟨_, ha1, ?_⟩; conv => whnf) | (refine ⟨_, _, ha2, ?_⟩; conv => whnf) | (refine ⟨_, ha2, ?_⟩; conv => whnf) | (refine br_no (by simp) ?_; conv => whnf) | (refine br_d (by omega) ?_; conv => whnf) | (refine br_nd (by omega) ?_; conv => whnf) | (refine br_eq (by omega) ?_; conv => whnf) | (refine br_neq (by omega) ?_; conv => whnf) | (refine br_ne (by omega) ?_; conv => whnf) | (refine br_no (bo_eqn (by omega)) ?_; conv => whnf) | (refine setB_app ?_; conv => whnf) | (refine setB_app0 ?_; conv => whnf) | (rw [getB_app]; conv => whnf) | (rw [getB_app0]; conv => whnf) | (refine addB_f8 ?_; conv => whnf) | (refine addB_f7 ?_; conv => whnf) | (refine addB_f6 ?_; conv => whnf) | (refine addB_f5 ?_; conv => whnf) | (refine addB_f4 ?_; conv => whnf) | (refine addB_f3 ?_; conv => whnf) | (refine addB_f2 ?_; conv => whnf) | (refine addB_f1 ?_; conv => whnf) | (refine addB_f0 ?_; conv => whnf))
  refine loop_to (fun k => [.any, .any, .any, .any, .any, .any, .any, .ptr (B + 1) 0, .any, .any, I c, I d, I q, I k, .any, .any, .any, .any, .any, .any, .any, .any, .any, .any, .any, .any, .any, .any, .any, .any, .any, .any, .any, .any, .any, .any, .any, .any, .any, .any, .any, .any, .any, .any, .any, .any, .any, .any, .any, .any, .any, .any, .any, .any, .any, .any, .any, .any, .any, .any, .any, .any, .any, .any, .any, .any, .any, .any, .any, .any, .any, .any, .any, .any, .any, .any, .any, .any, .any, .any, .any, .any, .any, .any, .any]) (fun _ => M) 0 4 (by decide) ?_ ?_ ?_
  · refine Fg.of [] ?_ (by rw [List.append_nil]) (by simp) (by (simp [scL, V.sc]) <;> omega) hsc
    conv => whnf
    exact ⟨rfl, rfl, rfl, rfl, rfl, rfl⟩
  · intro k _ hk
    obtain ⟨e1, w1, a1, b1, c1⟩ := around_len hn hn' hc hk
    obtain ⟨e2, w2, a2, b2, c2⟩ := around_len hn hn' hd (Nat.mod_lt (k + q) (show 0 < 4 by decide))
    rw [eL k hk] at b2
    rw [eG k hk] at c2
    generalize lenC n c k = ln at *
    generalize gapC n c k = gp at *
    have hss := side_sum9 hk hq
    (conv => whnf); repeat (first | (rw [hss]; conv => whnf) | (refine ⟨_, _, a1 _ _ hN, ?_⟩; conv => whnf) | (refine ⟨_, a1 _ _ hN, ?_⟩; conv => whnf) | (refine ⟨_, _, a2 _ _ hN, ?_⟩; conv => whnf) | (refine ⟨_, a2 _ _ hN, ?_⟩; conv => whnf) | (refine ⟨_, _, b1 _ _ hN, ?_⟩; conv => whnf) | (refine ⟨_, b1 _ _ hN, ?_⟩; conv => whnf) | (refine ⟨_, _, b2 _ _ hN, ?_⟩; conv => whnf) | (refine ⟨_, b2 _ _ hN, ?_⟩; conv => whnf) | (refine ⟨_, _, c1 _ _ hN, ?_⟩; conv => whnf) | (refine ⟨_, c1 _ _ hN, ?_⟩; conv => whnf) | (refine ⟨_, _, c2 _ _ hN, ?_⟩; conv => whnf) | (refine ⟨_, c2 _ _ hN, ?_⟩; conv => whnf) | (refine ⟨_, _, same_yes _ _, ?_⟩; conv => whnf) | (refine ⟨_, same_yes _ _, ?_⟩; conv => whnf) | (refine br_d (by omega) ?_; conv => whnf) | (refine br_nd (by omega) ?_; conv => whnf) | (refine br_eq (by omega) ?_; conv => whnf) | (refine br_neq (by omega) ?_; conv => whnf) | (refine br_ne (by omega) ?_; conv => whnf) | (refine br_no (bo_eqn (by omega)) ?_; conv => whnf) | (refine setB_app ?_; conv => whnf) | (refine setB_app0 ?_; conv => whnf) | (rw [getB_app]; conv => whnf) | (rw [getB_app0]; conv => whnf) | (refine addB_f8 ?_; conv => whnf) | (refine addB_f7 ?_; conv => whnf) | (refine addB_f6 ?_; conv => whnf) | (refine addB_f5 ?_; conv => whnf) | (refine addB_f4 ?_; conv => whnf) | (refine addB_f3 ?_; conv => whnf) | (refine addB_f2 ?_; conv => whnf) | (refine addB_f1 ?_; conv => whnf) | (refine addB_f0 ?_; conv => whnf))
    refine Fg.of [] ?_ (by rw [List.append_nil]) (by simp) (by (simp [scL, V.sc]) <;> omega) hsc
    conv => whnf
    exact ⟨rfl, rfl, rfl, rfl, wrapKV (by omega), rfl⟩
  · (conv => whnf); repeat (first | (refine br_d (by omega) ?_; conv => whnf) | (refine br_nd (by omega) ?_; conv => whnf) | (refine br_eq (by omega) ?_; conv => whnf) | (refine br_neq (by omega) ?_; conv => whnf) | (refine br_ne (by omega) ?_; conv => whnf) | (refine br_no (bo_eqn (by omega)) ?_; conv => whnf) | (refine setB_app ?_; conv => whnf) | (refine setB_app0 ?_; conv => whnf) | (rw [getB_app]; conv => whnf) | (rw [getB_app0]; conv => whnf) | (refine addB_f8 ?_; conv => whnf) | (refine addB_f7 ?_; conv => whnf) | (refine addB_f6 ?_; conv => whnf) | (refine addB_f5 ?_; conv => whnf) | (refine addB_f4 ?_; conv => whnf) | (refine addB_f3 ?_; conv => whnf) | (refine addB_f2 ?_; conv => whnf) | (refine addB_f1 ?_; conv => whnf) | (refine addB_f0 ?_; conv => whnf))
    exact ⟨rfl, z, by rw [hM]; rfl⟩
end Go.Proofs.YtbfdbpmdibjanaaDoor
