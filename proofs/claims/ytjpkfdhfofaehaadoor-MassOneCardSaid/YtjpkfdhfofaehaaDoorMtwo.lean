/- MassTwo: its contract. No condition. -/
import Derived.Test.YtjpkfdhfofaehaaDoorMkept
namespace Go.Proofs.YtjpkfdhfofaehaaDoor
open Go Go.Eng
set_option maxRecDepth 100000
set_option linter.unusedSimpArgs false
set_option linter.unusedVariables false

theorem getB_up {M M' : List Blk} (u : Up M M') {i : Nat} {b : Blk} (h : getB M i = b) (hl : b.b.live = true) : getB M' i = b := by
  obtain ⟨x, rfl⟩ := u.ex
  exact getB_in h hl
theorem new_noM (side : Int) (h : ¬ (1 ≤ side ∧ side ≤ 32)) : ∀ m, COk Tryd.prog 3 15 [I side] m (.tup [.raw (.pointer none), I 10]) m := new_no side h
theorem get_t {N k : Nat} {G : Nat → Int} (h : k < N) : (tab N G).getD (0 + k * 1) 0 = G k := by
  rw [show 0 + k * 1 = k by omega, tab_get h]
def sumW (a b : List Int) (i : Nat) : Int := IntKind.i64.wrap (a.getD i 0 + b.getD i 0)
theorem wrap_over {a b : Int} (ha : in64 a) (hb : in64 b) (h : ¬ in64 (a + b)) : (decide (a ≥ 0) == decide (b ≥ 0)) = true ∧ (decide (IntKind.i64.wrap (a + b) ≥ 0) != decide (a ≥ 0)) = true := by
  have e := wrapI_mod (a + b)
  rcases (by omega : (0 ≤ a ∧ 0 ≤ b ∧ IntKind.i64.wrap (a + b) < 0) ∨ (a < 0 ∧ b < 0 ∧ 0 ≤ IntKind.i64.wrap (a + b))) with ⟨h1, h2, h3⟩ | ⟨h1, h2, h3⟩
  · have h3 : ¬ IntKind.i64.wrap (a + b) ≥ 0 := by omega
    simp [h1, h2, h3]
  · have h1 : ¬ a ≥ 0 := by omega
    have h2 : ¬ b ≥ 0 := by omega
    have h3 : IntKind.i64.wrap (a + b) ≥ 0 := h3
    simp [h1, h2, h3]
theorem wrap_none {a b : Int} (h : in64 (a + b)) (hs : (decide (a ≥ 0) == decide (b ≥ 0)) = true) : (decide (IntKind.i64.wrap (a + b) ≥ 0) != decide (a ≥ 0)) = false := by
  rw [wrap_id h.1 h.2]
  by_cases h1 : a ≥ 0 <;> by_cases h2 : b ≥ 0
  · have : a + b ≥ 0 := by omega
    simp [h1, this]
  · simp [h1, h2] at hs
  · simp [h1, h2] at hs
  · have : ¬ a + b ≥ 0 := by omega
    simp [h1, this]
theorem tot_two {n : Nat} {w a b : List Int} {c : Nat} (hc : c < w.length) (hab : b.length = a.length) (h : ∀ i, i < a.length → in64 (a.getD i 0 + b.getD i 0)) : tot n w (tab a.length (sumW a b)) c = tot n (tab w.length (tot n w a)) b c := by
  unfold tot
  rw [tab_len, tab_get hc, hab]
  have : dl n (fL (tab a.length (sumW a b))) a.length c = dl n (fun i => fL a i + fL b i) a.length c := dl_congr c _ fun i hi => by
    have := h i hi
    show (tab a.length (sumW a b)).getD i 0 = _
    rw [tab_get hi, sumW, wrap_id this.1 this.2]; rfl
  rw [this, dl_add]
  show _ = w.getD c 0 + dl n (fL a) a.length c + _
  omega
set_option maxHeartbeats 0 in
theorem two15_ok {M : List Blk} (hm : Top M) (hsc : scM M.length M = true) (side : Int) {v1 va vb : V} {w a b' : List Int} (h1 : Sli M v1 w) (ha : Sli M va a) (hb : Sli M vb b') : COk Tryd.prog 3 7 [I side, v1, .agg [va, vb]] M (Bo true) M := by
  have u0 : Up M (M ++ [⟨true, .cells [va, vb]⟩]) := Up.of hsc (by
    rcases ha with ⟨rfl, _⟩ | ⟨j, o, rfl, ha⟩ <;> rcases hb with ⟨rfl, _⟩ | ⟨j', o', rfl, hb⟩
    · rfl
    · have := hb.lt; simp [scM, B.sc, scL, V.sc]; omega
    · have := ha.lt; simp [scM, B.sc, scL, V.sc]; omega
    · have := ha.lt; have := hb.lt; simp [scM, B.sc, scL, V.sc]; omega)
  have hm0 := hm.up u0
  by_cases hside : 1 ≤ side ∧ side ≤ 32
  case neg =>
    have hno := new_noM side hside
    rcases h1 with ⟨rfl, rfl⟩ | ⟨j1, o1, rfl, h1⟩ <;> rcases ha with ⟨rfl, rfl⟩ | ⟨j2, o2, rfl, ha⟩ <;> rcases hb with ⟨rfl, rfl⟩ | ⟨j3, o3, rfl, hb⟩
    all_goals
      refine COk_quiet Tryd.f7 Tryd.func7 (by kernel_rfl) rfl ?_
      (conv => whnf); repeat (first | (refine ⟨_, _, awake15_ok hm0 u0.sc, ?_⟩; conv => whnf) | (refine ⟨_, awake15_ok hm0 u0.sc, ?_⟩; conv => whnf) | (refine ⟨_, _, hno _, ?_⟩; conv => whnf) | (refine ⟨_, hno _, ?_⟩; conv => whnf) | (refine br_d (by omega) ?_; conv => whnf) | (refine br_nd (by omega) ?_; conv => whnf) | (refine br_eq (by omega) ?_; conv => whnf) | (refine br_neq (by omega) ?_; conv => whnf) | (refine br_ne (by omega) ?_; conv => whnf) | (refine br_no (bo_eqn (by omega)) ?_; conv => whnf) | (refine setB_app ?_; conv => whnf) | (refine setB_app0 ?_; conv => whnf) | (rw [getB_app]; conv => whnf) | (rw [getB_app0]; conv => whnf) | (refine addB_f8 ?_; conv => whnf) | (refine addB_f7 ?_; conv => whnf) | (refine addB_f6 ?_; conv => whnf) | (refine addB_f5 ?_; conv => whnf) | (refine addB_f4 ?_; conv => whnf) | (refine addB_f3 ?_; conv => whnf) | (refine addB_f2 ?_; conv => whnf) | (refine addB_f1 ?_; conv => whnf) | (refine addB_f0 ?_; conv => whnf))
      exact ⟨rfl, _, rfl⟩
  obtain ⟨n, rfl⟩ : ∃ n : Nat, side = n := ⟨side.toNat, by omega⟩
  have hn : 1 ≤ n := by omega
  have hn' : n ≤ 32 := by omega
  have hnn : 1 ≤ n * n ∧ n * n ≤ 1024 := ⟨Nat.mul_pos hn hn, Nat.mul_le_mul hn' hn'⟩
  have hel := edges_len hn
  obtain ⟨b, M1, hnew, hN, u1⟩ := new_up hm0 u0.sc n hn hn'
  have hng := (hm0.up u1).ng
  have hbox1 : getB M1 M.length = ⟨true, .cells [va, vb]⟩ := getB_up u1 getB_app0 rfl
  have u01 := u0.trans u1
  have w1 := h1.up u01
  have a1 := ha.up u01
  have b1 := hb.up u01
  by_cases hab : a.length = b'.length
  case neg =>
    rcases h1 with ⟨rfl, rfl⟩ | ⟨j1, o1, rfl, h1⟩ <;> rcases ha with ⟨rfl, rfl⟩ | ⟨j2, o2, rfl, ha⟩ <;> rcases hb with ⟨rfl, rfl⟩ | ⟨j3, o3, rfl, hb⟩
    all_goals
      (try rw [List.length_nil] at hab)
      (try (exact absurd rfl hab))
    all_goals
      refine COk_quiet Tryd.f7 Tryd.func7 (by kernel_rfl) rfl ?_
      (conv => whnf); repeat (first | (refine ⟨_, _, awake15_ok hm0 u0.sc, ?_⟩; conv => whnf) | (refine ⟨_, awake15_ok hm0 u0.sc, ?_⟩; conv => whnf) | (refine ⟨_, _, hnew, ?_⟩; conv => whnf) | (refine ⟨_, hnew, ?_⟩; conv => whnf) | (rw [hbox1]; conv => whnf) | (refine br_d (by omega) ?_; conv => whnf) | (refine br_nd (by omega) ?_; conv => whnf) | (refine br_eq (by omega) ?_; conv => whnf) | (refine br_neq (by omega) ?_; conv => whnf) | (refine br_ne (by omega) ?_; conv => whnf) | (refine br_no (bo_eqn (by omega)) ?_; conv => whnf) | (refine setB_app ?_; conv => whnf) | (refine setB_app0 ?_; conv => whnf) | (rw [getB_app]; conv => whnf) | (rw [getB_app0]; conv => whnf) | (refine addB_f8 ?_; conv => whnf) | (refine addB_f7 ?_; conv => whnf) | (refine addB_f6 ?_; conv => whnf) | (refine addB_f5 ?_; conv => whnf) | (refine addB_f4 ?_; conv => whnf) | (refine addB_f3 ?_; conv => whnf) | (refine addB_f2 ?_; conv => whnf) | (refine addB_f1 ?_; conv => whnf) | (refine addB_f0 ?_; conv => whnf))
      exact ⟨rfl, by simpa using u01.app []⟩
  by_cases hsz : w.length = 6 * (n * n) ∧ a.length = (edges n).length
  case neg =>
    have hmv := move_arg hN w1 a1 (by omega)
    rcases h1 with ⟨rfl, rfl⟩ | ⟨j1, o1, rfl, h1⟩ <;> rcases ha with ⟨rfl, rfl⟩ | ⟨j2, o2, rfl, ha⟩ <;> rcases hb with ⟨rfl, rfl⟩ | ⟨j3, o3, rfl, hb⟩
    all_goals
      (try rw [List.length_nil] at hab)
      refine COk_quiet Tryd.f7 Tryd.func7 (by kernel_rfl) rfl ?_
      (conv => whnf); repeat (first | (refine ⟨_, _, awake15_ok hm0 u0.sc, ?_⟩; conv => whnf) | (refine ⟨_, awake15_ok hm0 u0.sc, ?_⟩; conv => whnf) | (refine ⟨_, _, hnew, ?_⟩; conv => whnf) | (refine ⟨_, hnew, ?_⟩; conv => whnf) | (rw [hbox1]; conv => whnf) | (refine ⟨_, _, hmv, ?_⟩; conv => whnf) | (refine ⟨_, hmv, ?_⟩; conv => whnf) | (refine br_d (by omega) ?_; conv => whnf) | (refine br_nd (by omega) ?_; conv => whnf) | (refine br_eq (by omega) ?_; conv => whnf) | (refine br_neq (by omega) ?_; conv => whnf) | (refine br_ne (by omega) ?_; conv => whnf) | (refine br_no (bo_eqn (by omega)) ?_; conv => whnf) | (refine setB_app ?_; conv => whnf) | (refine setB_app0 ?_; conv => whnf) | (rw [getB_app]; conv => whnf) | (rw [getB_app0]; conv => whnf) | (refine addB_f8 ?_; conv => whnf) | (refine addB_f7 ?_; conv => whnf) | (refine addB_f6 ?_; conv => whnf) | (refine addB_f5 ?_; conv => whnf) | (refine addB_f4 ?_; conv => whnf) | (refine addB_f3 ?_; conv => whnf) | (refine addB_f2 ?_; conv => whnf) | (refine addB_f1 ?_; conv => whnf) | (refine addB_f0 ?_; conv => whnf))
      exact ⟨rfl, by simpa using u01.app []⟩
  obtain ⟨hw, hf⟩ := hsz
  obtain ⟨j1, o1, rfl, w1'⟩ := w1.sl (by omega)
  obtain ⟨j2, o2, rfl, a1'⟩ := a1.sl (by omega)
  obtain ⟨j3, o3, rfl, b1'⟩ := b1.sl (by omega)
  clear w1 a1 b1 h1 ha hb
  have hwa := a1'.wf
  have hwb := b1'.wf
  by_cases hg : ∀ c, c < w.length → 0 ≤ tot n w a c ∧ tot n w a c < 9223372036854775808
  case neg =>
    obtain ⟨c0, hc0, hlo, hbad⟩ := first_bad hg
    have hmv := move_not hng u1.sc hN hn hn' w1' a1' hw hf hc0 hlo hbad
    refine COk_quiet Tryd.f7 Tryd.func7 (by kernel_rfl) rfl ?_
    (conv => whnf); repeat (first | (refine ⟨_, _, awake15_ok hm0 u0.sc, ?_⟩; conv => whnf) | (refine ⟨_, awake15_ok hm0 u0.sc, ?_⟩; conv => whnf) | (refine ⟨_, _, hnew, ?_⟩; conv => whnf) | (refine ⟨_, hnew, ?_⟩; conv => whnf) | (rw [hbox1]; conv => whnf) | (refine ⟨_, _, hmv, ?_⟩; conv => whnf) | (refine ⟨_, hmv, ?_⟩; conv => whnf) | (refine br_d (by omega) ?_; conv => whnf) | (refine br_nd (by omega) ?_; conv => whnf) | (refine br_eq (by omega) ?_; conv => whnf) | (refine br_neq (by omega) ?_; conv => whnf) | (refine br_ne (by omega) ?_; conv => whnf) | (refine br_no (bo_eqn (by omega)) ?_; conv => whnf) | (refine setB_app ?_; conv => whnf) | (refine setB_app0 ?_; conv => whnf) | (rw [getB_app]; conv => whnf) | (rw [getB_app0]; conv => whnf) | (refine addB_f8 ?_; conv => whnf) | (refine addB_f7 ?_; conv => whnf) | (refine addB_f6 ?_; conv => whnf) | (refine addB_f5 ?_; conv => whnf) | (refine addB_f4 ?_; conv => whnf) | (refine addB_f3 ?_; conv => whnf) | (refine addB_f2 ?_; conv => whnf) | (refine addB_f1 ?_; conv => whnf) | (refine addB_f0 ?_; conv => whnf))
    exact ⟨rfl, by simpa using u01.app []⟩
  obtain ⟨M2, hmv, u2, s2⟩ := move_up hng u1.sc hN hn hn' w1' a1' hw hf hg
  have hng2 := (hm0.up (u1.trans u2)).ng
  have hbox2 : getB M2 M.length = ⟨true, .cells [.sl j2 o2 a.length, .sl j3 o3 b'.length]⟩ := getB_up u2 hbox1 rfl
  by_cases hg2 : ∀ c, c < (tab w.length (tot n w a)).length → 0 ≤ tot n (tab w.length (tot n w a)) b' c ∧ tot n (tab w.length (tot n w a)) b' c < 9223372036854775808
  case neg =>
    obtain ⟨c0, hc0, hlo, hbad⟩ := first_bad hg2
    have hmv2 := move_not hng2 u2.sc (hN.up u2) hn hn' s2 (b1'.up u2) (by rw [tab_len]; exact hw) (by omega) hc0 hlo hbad
    rw [tab_len] at hmv2
    refine COk_quiet Tryd.f7 Tryd.func7 (by kernel_rfl) rfl ?_
    (conv => whnf); repeat (first | (refine ⟨_, _, awake15_ok hm0 u0.sc, ?_⟩; conv => whnf) | (refine ⟨_, awake15_ok hm0 u0.sc, ?_⟩; conv => whnf) | (refine ⟨_, _, hnew, ?_⟩; conv => whnf) | (refine ⟨_, hnew, ?_⟩; conv => whnf) | (rw [hbox1]; conv => whnf) | (refine ⟨_, _, hmv, ?_⟩; conv => whnf) | (refine ⟨_, hmv, ?_⟩; conv => whnf) | (rw [hbox2]; conv => whnf) | (refine ⟨_, _, hmv2, ?_⟩; conv => whnf) | (refine ⟨_, hmv2, ?_⟩; conv => whnf) | (refine br_d (by omega) ?_; conv => whnf) | (refine br_nd (by omega) ?_; conv => whnf) | (refine br_eq (by omega) ?_; conv => whnf) | (refine br_neq (by omega) ?_; conv => whnf) | (refine br_ne (by omega) ?_; conv => whnf) | (refine br_no (bo_eqn (by omega)) ?_; conv => whnf) | (refine setB_app ?_; conv => whnf) | (refine setB_app0 ?_; conv => whnf) | (rw [getB_app]; conv => whnf) | (rw [getB_app0]; conv => whnf) | (refine addB_f8 ?_; conv => whnf) | (refine addB_f7 ?_; conv => whnf) | (refine addB_f6 ?_; conv => whnf) | (refine addB_f5 ?_; conv => whnf) | (refine addB_f4 ?_; conv => whnf) | (refine addB_f3 ?_; conv => whnf) | (refine addB_f2 ?_; conv => whnf) | (refine addB_f1 ?_; conv => whnf) | (refine addB_f0 ?_; conv => whnf))
    exact ⟨rfl, by simpa using (u01.trans u2).app []⟩
  obtain ⟨M3, hmv2, u3, s3⟩ := move_up hng2 u2.sc (hN.up u2) hn hn' s2 (b1'.up u2) (by rw [tab_len]; exact hw) (by omega) hg2
  rw [tab_len] at hmv2 hg2
  have hbox3 : getB M3 M.length = ⟨true, .cells [.sl j2 o2 a.length, .sl j3 o3 b'.length]⟩ := getB_up u3 hbox2 rfl
  have u23 := u2.trans u3
  have w3 := w1'.up u23
  have a3 := a1'.up u23
  have b3 := b1'.up u23
  have uall := u01.trans u23
  have l1 := w3.lt
  have l2 := a3.lt
  have l3 := b3.lt
  have l4 := (hN.up u23).lt
  have l5 := u3.len
  have l6 := uall.len
  have l7 := s3.lt
  have l8 : M.length < M3.length := getB_lt hbox3 rfl
  by_cases hov : ∀ i, i < a.length → in64 (a.getD i 0 + b'.getD i 0)
  · have hnov := hov
    have sw : ∀ i, i < a.length → in64 (sumW a b' i) := fun i hi => by
      have := hov i hi
      unfold sumW; rw [wrap_id this.1 this.2]; exact this
    have uS : Up M3 (M3 ++ [⟨true, .ints .i64 (tab a.length (sumW a b'))⟩]) := Up.of u3.sc rfl
    have htt := fun c (hc : c < w.length) => tot_two (n := n) hc hab.symm hov
    obtain ⟨M4, hmv4, u4, s4⟩ := move_up (by have := uS.len; have := u23.len; omega) uS.sc (hN.up (u23.trans uS)) hn hn' (w3.up uS) (SlI.tab (N := a.length) getB_app0 sw (by omega)) hw (by rw [tab_len]; exact hf) (fun c hc => by rw [htt c hc]; exact hg2 c hc)
    have hsame := same15_ok ((hm.up (((uall.trans uS).trans u4))).ng) u4.sc (Sli.of s4) (Sli.of ((s3.up uS).up u4))
    rw [tab_len] at hmv4
    rw [tab_len, tab_len, tab_len] at hsame
    rw [decide_eq_true (tab_congr htt)] at hsame
    refine COk_quiet Tryd.f7 Tryd.func7 (by kernel_rfl) rfl ?_
    (conv => whnf); repeat (first | (refine ⟨_, _, awake15_ok hm0 u0.sc, ?_⟩; conv => whnf) | (refine ⟨_, awake15_ok hm0 u0.sc, ?_⟩; conv => whnf) | (refine ⟨_, _, hnew, ?_⟩; conv => whnf) | (refine ⟨_, hnew, ?_⟩; conv => whnf) | (rw [hbox1]; conv => whnf) | (refine ⟨_, _, hmv, ?_⟩; conv => whnf) | (refine ⟨_, hmv, ?_⟩; conv => whnf) | (rw [hbox2]; conv => whnf) | (refine ⟨_, _, hmv2, ?_⟩; conv => whnf) | (refine ⟨_, hmv2, ?_⟩; conv => whnf) | (rw [hbox3]; conv => whnf) | (refine br_d ⟨by omega, by omega, by omega, (by show (8 : Int) * _ ≤ 2 ^ 48; omega)⟩ ?_; conv => whnf) | (refine br_d (by omega) ?_; conv => whnf) | (refine br_nd (by omega) ?_; conv => whnf) | (refine br_eq (by omega) ?_; conv => whnf) | (refine br_neq (by omega) ?_; conv => whnf) | (refine br_ne (by omega) ?_; conv => whnf) | (refine br_no (bo_eqn (by omega)) ?_; conv => whnf) | (refine setB_app ?_; conv => whnf) | (refine setB_app0 ?_; conv => whnf) | (rw [getB_app]; conv => whnf) | (rw [getB_app0]; conv => whnf) | (refine addB_f8 ?_; conv => whnf) | (refine addB_f7 ?_; conv => whnf) | (refine addB_f6 ?_; conv => whnf) | (refine addB_f5 ?_; conv => whnf) | (refine addB_f4 ?_; conv => whnf) | (refine addB_f3 ?_; conv => whnf) | (refine addB_f2 ?_; conv => whnf) | (refine addB_f1 ?_; conv => whnf) | (refine addB_f0 ?_; conv => whnf))
    refine loop_to (fun k => [.any, .sl j1 o1 w.length, .any, .any, .any, .ptr M.length 0, .any, .ptr (b + 1) 0, .any, .any, .sl (M2.length + 1) 0 w.length, .sl M3.length 0 a.length, I k, .any, .any, .any, .any, .any, .any, .any, .any, .any, .any, .any, .any, .any, .any, .any, .any, .any, .any, .any, .any, .any, .any, .any, .any, .any, .any, .any, .any, .any, .any, .any, .any, .any, .any, .any, .any, .any, .any, .any, .any, .any, .any, .any, .any, .any, .any, .any, .any, .any, .any, .any, .any, .any, .any, .any, .any, .any, .any, .any, .any, .any, .any, .any, .any, .any, .any, .any, .any, .any, .any, .any, .any, .any, .any, .any, .any, .any, .any, .any, .any, .any, .any, .any, .any, .any, .any, .any, .any, .any, .any, .any, .any, .any, .any, .any, .any, .any, .any, .any, .any, .any, .any, .any, .any, .any, .any]) (fun k => M3 ++ [⟨true, .ints .i64 (tab a.length (movF k (sumW a b')))⟩]) 0 a.length (by omega) ?_ ?_ ?_
    · refine Fg.of [] ?_ (by rw [List.append_nil]; exact congrArg (fun L => M3 ++ [⟨true, .ints .i64 L⟩]) (zero_t a.length)) (by simp) (by (simp [scL, V.sc]) <;> omega) (scM_app (scM_mono (by simp) _ u3.sc) rfl)
      conv => whnf
      exact ⟨rfl, rfl, rfl, rfl, rfl, rfl, rfl⟩
    · intro k _ hk
      have hno := hnov k hk
      have hk : k < a.length := by omega
      have hs := get_t (N := a.length) (G := movF (k + 1) (sumW a b')) hk
      rw [movF, if_pos (by omega)] at hs
      by_cases hsg : (decide (a.getD k 0 ≥ 0) == decide (b'.getD k 0 ≥ 0)) = true
      · have hn2 := wrap_none hno hsg
        have hn3 : (decide ((tab a.length (movF (k + 1) (sumW a b'))).getD (0 + k * 1) 0 ≥ 0) != decide (a.getD k 0 ≥ 0)) = false := by rw [hs]; exact hn2
        (conv => whnf); repeat (first | (rw [getB_in hbox3 rfl]; conv => whnf) | (refine SlI.at (a3.app _) (i := k) hk rfl ?_; conv => whnf) | (refine SlI.at (b3.app _) (i := k) (by omega) rfl ?_; conv => whnf) | (refine br_yes (blt_t hk) ?_; conv => whnf) | (refine setB_as0 (i64_blk (step3 (sumW a b'))) ?_; conv => whnf) | (refine br_yes hsg ?_; conv => whnf) | (refine br_no hn3 ?_; conv => whnf) | (refine br_d (by omega) ?_; conv => whnf) | (refine br_nd (by omega) ?_; conv => whnf) | (refine br_eq (by omega) ?_; conv => whnf) | (refine br_neq (by omega) ?_; conv => whnf) | (refine br_ne (by omega) ?_; conv => whnf) | (refine br_no (bo_eqn (by omega)) ?_; conv => whnf) | (refine setB_app ?_; conv => whnf) | (refine setB_app0 ?_; conv => whnf) | (rw [getB_app]; conv => whnf) | (rw [getB_app0]; conv => whnf) | (refine addB_f8 ?_; conv => whnf) | (refine addB_f7 ?_; conv => whnf) | (refine addB_f6 ?_; conv => whnf) | (refine addB_f5 ?_; conv => whnf) | (refine addB_f4 ?_; conv => whnf) | (refine addB_f3 ?_; conv => whnf) | (refine addB_f2 ?_; conv => whnf) | (refine addB_f1 ?_; conv => whnf) | (refine addB_f0 ?_; conv => whnf))
        refine Fg.of [] ?_ (by rw [List.append_nil]; rfl) (by simp) (by (simp [scL, V.sc]) <;> omega) (scM_app (scM_mono (by simp) _ u3.sc) rfl)
        conv => whnf
        exact ⟨rfl, rfl, rfl, rfl, rfl, wrapKL (by omega), rfl⟩
      · have hsg : (decide (a.getD k 0 ≥ 0) == decide (b'.getD k 0 ≥ 0)) = false := by simpa using hsg
        (conv => whnf); repeat (first | (rw [getB_in hbox3 rfl]; conv => whnf) | (refine SlI.at (a3.app _) (i := k) hk rfl ?_; conv => whnf) | (refine SlI.at (b3.app _) (i := k) (by omega) rfl ?_; conv => whnf) | (refine br_yes (blt_t hk) ?_; conv => whnf) | (refine setB_as0 (i64_blk (step3 (sumW a b'))) ?_; conv => whnf) | (refine br_no hsg ?_; conv => whnf) | (refine br_d (by omega) ?_; conv => whnf) | (refine br_nd (by omega) ?_; conv => whnf) | (refine br_eq (by omega) ?_; conv => whnf) | (refine br_neq (by omega) ?_; conv => whnf) | (refine br_ne (by omega) ?_; conv => whnf) | (refine br_no (bo_eqn (by omega)) ?_; conv => whnf) | (refine setB_app ?_; conv => whnf) | (refine setB_app0 ?_; conv => whnf) | (rw [getB_app]; conv => whnf) | (rw [getB_app0]; conv => whnf) | (refine addB_f8 ?_; conv => whnf) | (refine addB_f7 ?_; conv => whnf) | (refine addB_f6 ?_; conv => whnf) | (refine addB_f5 ?_; conv => whnf) | (refine addB_f4 ?_; conv => whnf) | (refine addB_f3 ?_; conv => whnf) | (refine addB_f2 ?_; conv => whnf) | (refine addB_f1 ?_; conv => whnf) | (refine addB_f0 ?_; conv => whnf))
        refine Fg.of [] ?_ (by rw [List.append_nil]; rfl) (by simp) (by (simp [scL, V.sc]) <;> omega) (scM_app (scM_mono (by simp) _ u3.sc) rfl)
        conv => whnf
        exact ⟨rfl, rfl, rfl, rfl, rfl, wrapKL (by omega), rfl⟩
    · (conv => whnf); repeat (first | (refine br_d (by omega) ?_; conv => whnf) | (refine br_nd (by omega) ?_; conv => whnf) | (refine br_eq (by omega) ?_; conv => whnf) | (refine br_neq (by omega) ?_; conv => whnf) | (refine br_ne (by omega) ?_; conv => whnf) | (refine br_no (bo_eqn (by omega)) ?_; conv => whnf) | (refine setB_app ?_; conv => whnf) | (refine setB_app0 ?_; conv => whnf) | (rw [getB_app]; conv => whnf) | (rw [getB_app0]; conv => whnf) | (refine addB_f8 ?_; conv => whnf) | (refine addB_f7 ?_; conv => whnf) | (refine addB_f6 ?_; conv => whnf) | (refine addB_f5 ?_; conv => whnf) | (refine addB_f4 ?_; conv => whnf) | (refine addB_f3 ?_; conv => whnf) | (refine addB_f2 ?_; conv => whnf) | (refine addB_f1 ?_; conv => whnf) | (refine addB_f0 ?_; conv => whnf))
      rw [end3]
      (conv => whnf); repeat (first | (refine ⟨_, _, hmv4, ?_⟩; conv => whnf) | (refine ⟨_, hmv4, ?_⟩; conv => whnf) | (refine ⟨_, _, hsame, ?_⟩; conv => whnf) | (refine ⟨_, hsame, ?_⟩; conv => whnf) | (refine br_d (by omega) ?_; conv => whnf) | (refine br_nd (by omega) ?_; conv => whnf) | (refine br_eq (by omega) ?_; conv => whnf) | (refine br_neq (by omega) ?_; conv => whnf) | (refine br_ne (by omega) ?_; conv => whnf) | (refine br_no (bo_eqn (by omega)) ?_; conv => whnf) | (refine setB_app ?_; conv => whnf) | (refine setB_app0 ?_; conv => whnf) | (rw [getB_app]; conv => whnf) | (rw [getB_app0]; conv => whnf) | (refine addB_f8 ?_; conv => whnf) | (refine addB_f7 ?_; conv => whnf) | (refine addB_f6 ?_; conv => whnf) | (refine addB_f5 ?_; conv => whnf) | (refine addB_f4 ?_; conv => whnf) | (refine addB_f3 ?_; conv => whnf) | (refine addB_f2 ?_; conv => whnf) | (refine addB_f1 ?_; conv => whnf) | (refine addB_f0 ?_; conv => whnf))
      exact ⟨rfl, by simpa using ((uall.trans uS).trans u4).app []⟩
  · obtain ⟨k0, hk0, hnov, hbad⟩ := first_bad hov
    obtain ⟨e1, e2⟩ := wrap_over (hwa k0 hk0) (hwb k0 (by omega)) hbad
    refine COk_quiet Tryd.f7 Tryd.func7 (by kernel_rfl) rfl ?_
    (conv => whnf); repeat (first | (refine ⟨_, _, awake15_ok hm0 u0.sc, ?_⟩; conv => whnf) | (refine ⟨_, awake15_ok hm0 u0.sc, ?_⟩; conv => whnf) | (refine ⟨_, _, hnew, ?_⟩; conv => whnf) | (refine ⟨_, hnew, ?_⟩; conv => whnf) | (rw [hbox1]; conv => whnf) | (refine ⟨_, _, hmv, ?_⟩; conv => whnf) | (refine ⟨_, hmv, ?_⟩; conv => whnf) | (rw [hbox2]; conv => whnf) | (refine ⟨_, _, hmv2, ?_⟩; conv => whnf) | (refine ⟨_, hmv2, ?_⟩; conv => whnf) | (rw [hbox3]; conv => whnf) | (refine br_d ⟨by omega, by omega, by omega, (by show (8 : Int) * _ ≤ 2 ^ 48; omega)⟩ ?_; conv => whnf) | (refine br_d (by omega) ?_; conv => whnf) | (refine br_nd (by omega) ?_; conv => whnf) | (refine br_eq (by omega) ?_; conv => whnf) | (refine br_neq (by omega) ?_; conv => whnf) | (refine br_ne (by omega) ?_; conv => whnf) | (refine br_no (bo_eqn (by omega)) ?_; conv => whnf) | (refine setB_app ?_; conv => whnf) | (refine setB_app0 ?_; conv => whnf) | (rw [getB_app]; conv => whnf) | (rw [getB_app0]; conv => whnf) | (refine addB_f8 ?_; conv => whnf) | (refine addB_f7 ?_; conv => whnf) | (refine addB_f6 ?_; conv => whnf) | (refine addB_f5 ?_; conv => whnf) | (refine addB_f4 ?_; conv => whnf) | (refine addB_f3 ?_; conv => whnf) | (refine addB_f2 ?_; conv => whnf) | (refine addB_f1 ?_; conv => whnf) | (refine addB_f0 ?_; conv => whnf))
    refine loop_to (fun k => [.any, .sl j1 o1 w.length, .any, .any, .any, .ptr M.length 0, .any, .ptr (b + 1) 0, .any, .any, .sl (M2.length + 1) 0 w.length, .sl M3.length 0 a.length, I k, .any, .any, .any, .any, .any, .any, .any, .any, .any, .any, .any, .any, .any, .any, .any, .any, .any, .any, .any, .any, .any, .any, .any, .any, .any, .any, .any, .any, .any, .any, .any, .any, .any, .any, .any, .any, .any, .any, .any, .any, .any, .any, .any, .any, .any, .any, .any, .any, .any, .any, .any, .any, .any, .any, .any, .any, .any, .any, .any, .any, .any, .any, .any, .any, .any, .any, .any, .any, .any, .any, .any, .any, .any, .any, .any, .any, .any, .any, .any, .any, .any, .any, .any, .any, .any, .any, .any, .any, .any, .any, .any, .any, .any, .any, .any, .any, .any, .any, .any, .any, .any, .any, .any, .any, .any, .any]) (fun k => M3 ++ [⟨true, .ints .i64 (tab a.length (movF k (sumW a b')))⟩]) 0 k0 (by omega) ?_ ?_ ?_
    · refine Fg.of [] ?_ (by rw [List.append_nil]; exact congrArg (fun L => M3 ++ [⟨true, .ints .i64 L⟩]) (zero_t a.length)) (by simp) (by (simp [scL, V.sc]) <;> omega) (scM_app (scM_mono (by simp) _ u3.sc) rfl)
      conv => whnf
      exact ⟨rfl, rfl, rfl, rfl, rfl, rfl, rfl⟩
    · intro k _ hk
      have hno := hnov k hk
      have hk : k < a.length := by omega
      have hs := get_t (N := a.length) (G := movF (k + 1) (sumW a b')) hk
      rw [movF, if_pos (by omega)] at hs
      by_cases hsg : (decide (a.getD k 0 ≥ 0) == decide (b'.getD k 0 ≥ 0)) = true
      · have hn2 := wrap_none hno hsg
        have hn3 : (decide ((tab a.length (movF (k + 1) (sumW a b'))).getD (0 + k * 1) 0 ≥ 0) != decide (a.getD k 0 ≥ 0)) = false := by rw [hs]; exact hn2
        (conv => whnf); repeat (first | (rw [getB_in hbox3 rfl]; conv => whnf) | (refine SlI.at (a3.app _) (i := k) hk rfl ?_; conv => whnf) | (refine SlI.at (b3.app _) (i := k) (by omega) rfl ?_; conv => whnf) | (refine br_yes (blt_t hk) ?_; conv => whnf) | (refine setB_as0 (i64_blk (step3 (sumW a b'))) ?_; conv => whnf) | (refine br_yes hsg ?_; conv => whnf) | (refine br_no hn3 ?_; conv => whnf) | (refine br_d (by omega) ?_; conv => whnf) | (refine br_nd (by omega) ?_; conv => whnf) | (refine br_eq (by omega) ?_; conv => whnf) | (refine br_neq (by omega) ?_; conv => whnf) | (refine br_ne (by omega) ?_; conv => whnf) | (refine br_no (bo_eqn (by omega)) ?_; conv => whnf) | (refine setB_app ?_; conv => whnf) | (refine setB_app0 ?_; conv => whnf) | (rw [getB_app]; conv => whnf) | (rw [getB_app0]; conv => whnf) | (refine addB_f8 ?_; conv => whnf) | (refine addB_f7 ?_; conv => whnf) | (refine addB_f6 ?_; conv => whnf) | (refine addB_f5 ?_; conv => whnf) | (refine addB_f4 ?_; conv => whnf) | (refine addB_f3 ?_; conv => whnf) | (refine addB_f2 ?_; conv => whnf) | (refine addB_f1 ?_; conv => whnf) | (refine addB_f0 ?_; conv => whnf))
        refine Fg.of [] ?_ (by rw [List.append_nil]; rfl) (by simp) (by (simp [scL, V.sc]) <;> omega) (scM_app (scM_mono (by simp) _ u3.sc) rfl)
        conv => whnf
        exact ⟨rfl, rfl, rfl, rfl, rfl, wrapKL (by omega), rfl⟩
      · have hsg : (decide (a.getD k 0 ≥ 0) == decide (b'.getD k 0 ≥ 0)) = false := by simpa using hsg
        (conv => whnf); repeat (first | (rw [getB_in hbox3 rfl]; conv => whnf) | (refine SlI.at (a3.app _) (i := k) hk rfl ?_; conv => whnf) | (refine SlI.at (b3.app _) (i := k) (by omega) rfl ?_; conv => whnf) | (refine br_yes (blt_t hk) ?_; conv => whnf) | (refine setB_as0 (i64_blk (step3 (sumW a b'))) ?_; conv => whnf) | (refine br_no hsg ?_; conv => whnf) | (refine br_d (by omega) ?_; conv => whnf) | (refine br_nd (by omega) ?_; conv => whnf) | (refine br_eq (by omega) ?_; conv => whnf) | (refine br_neq (by omega) ?_; conv => whnf) | (refine br_ne (by omega) ?_; conv => whnf) | (refine br_no (bo_eqn (by omega)) ?_; conv => whnf) | (refine setB_app ?_; conv => whnf) | (refine setB_app0 ?_; conv => whnf) | (rw [getB_app]; conv => whnf) | (rw [getB_app0]; conv => whnf) | (refine addB_f8 ?_; conv => whnf) | (refine addB_f7 ?_; conv => whnf) | (refine addB_f6 ?_; conv => whnf) | (refine addB_f5 ?_; conv => whnf) | (refine addB_f4 ?_; conv => whnf) | (refine addB_f3 ?_; conv => whnf) | (refine addB_f2 ?_; conv => whnf) | (refine addB_f1 ?_; conv => whnf) | (refine addB_f0 ?_; conv => whnf))
        refine Fg.of [] ?_ (by rw [List.append_nil]; rfl) (by simp) (by (simp [scL, V.sc]) <;> omega) (scM_app (scM_mono (by simp) _ u3.sc) rfl)
        conv => whnf
        exact ⟨rfl, rfl, rfl, rfl, rfl, wrapKL (by omega), rfl⟩
    · have hs := get_t (N := a.length) (G := movF (k0 + 1) (sumW a b')) hk0
      rw [movF, if_pos (by omega)] at hs
      have hn3 : (decide ((tab a.length (movF (k0 + 1) (sumW a b'))).getD (0 + k0 * 1) 0 ≥ 0) != decide (a.getD k0 0 ≥ 0)) = true := by rw [hs]; exact e2
      (conv => whnf); repeat (first | (rw [getB_in hbox3 rfl]; conv => whnf) | (refine SlI.at (a3.app _) (i := k0) hk0 rfl ?_; conv => whnf) | (refine SlI.at (b3.app _) (i := k0) (by omega) rfl ?_; conv => whnf) | (refine br_yes (blt_t hk0) ?_; conv => whnf) | (refine setB_as0 (i64_blk (step3 (sumW a b'))) ?_; conv => whnf) | (refine br_yes e1 ?_; conv => whnf) | (refine br_yes hn3 ?_; conv => whnf) | (refine br_d (by omega) ?_; conv => whnf) | (refine br_nd (by omega) ?_; conv => whnf) | (refine br_eq (by omega) ?_; conv => whnf) | (refine br_neq (by omega) ?_; conv => whnf) | (refine br_ne (by omega) ?_; conv => whnf) | (refine br_no (bo_eqn (by omega)) ?_; conv => whnf) | (refine setB_app ?_; conv => whnf) | (refine setB_app0 ?_; conv => whnf) | (rw [getB_app]; conv => whnf) | (rw [getB_app0]; conv => whnf) | (refine addB_f8 ?_; conv => whnf) | (refine addB_f7 ?_; conv => whnf) | (refine addB_f6 ?_; conv => whnf) | (refine addB_f5 ?_; conv => whnf) | (refine addB_f4 ?_; conv => whnf) | (refine addB_f3 ?_; conv => whnf) | (refine addB_f2 ?_; conv => whnf) | (refine addB_f1 ?_; conv => whnf) | (refine addB_f0 ?_; conv => whnf))
      exact ⟨rfl, uall.app _⟩
end Go.Proofs.YtjpkfdhfofaehaaDoor
