/- MassOne: its contract. No condition. -/
import Derived.Test.YtjpkfdhfofaehaaDoorMtwo
namespace Go.Proofs.YtjpkfdhfofaehaaDoor
open Go Go.Eng
set_option maxRecDepth 100000
set_option linter.unusedSimpArgs false
set_option linter.unusedVariables false

theorem dl_one {n r : Nat} {q : Int} {x : Ed} (hx : (edges n)[r]? = some x) (c : Nat) : ∀ m, dl n (oneF r q) m c = if r < m then (if x.1 = c then -q else 0) + (if x.2.2.1 = c then q else 0) else 0
  | 0 => rfl
  | m + 1 => by
    simp only [dl, dl_one hx c m]
    by_cases h : r = m
    · subst h
      rw [hx, if_neg (Nat.lt_irrefl _), if_pos (Nat.lt_succ_self _)]
      simp only [oneF, if_true]
      omega
    · have h0 : oneF r q m = 0 := if_neg (fun e => h e.symm)
      have e : (if r < m then ((if x.1 = c then -q else 0) + (if x.2.2.1 = c then q else 0)) else 0) = (if r < m + 1 then (if x.1 = c then -q else 0) + (if x.2.2.1 = c then q else 0) else 0) := by
        by_cases h1 : r < m
        · simp only [if_pos h1, if_pos (show r < m + 1 by omega)]
        · simp only [if_neg h1, if_neg (show ¬ r < m + 1 by omega)]
      split
      · rw [h0, ← e]; split <;> split <;> omega
      · exact e
theorem tot_one {n r K : Nat} {w : List Int} {q : Int} {x : Ed} (hx : (edges n)[r]? = some x) (hr : r < K) (c : Nat) : tot n w (tab K (oneF r q)) c = w.getD c 0 + ((if x.1 = c then -q else 0) + (if x.2.2.1 = c then q else 0)) := by
  unfold tot
  rw [tab_len]
  have h : dl n (fL (tab K (oneF r q))) K c = dl n (oneF r q) K c := dl_congr c _ fun i hi => by unfold fL; rw [tab_get hi]
  rw [h, dl_one hx, if_pos hr]
theorem mod_nat (z : Int) (K : Nat) (h1 : 1 ≤ K) (h2 : K < 9223372036854775808) : ∃ r : Nat, r < K ∧ IntKind.i64.wrap ((IntKind.u64.wrap z).tmod (K : Int)) = r := by
  obtain ⟨a, ha, _⟩ := u64_nat z
  refine ⟨a % K, Nat.mod_lt _ (by omega), ?_⟩
  have := Nat.mod_lt a (show 0 < K by omega)
  rw [ha, show (a : Int).tmod K = ((a % K : Nat) : Int) from (Int.ofNat_tmod a K).symm, wrap_id (by omega) (by omega)]
set_option maxHeartbeats 0 in
theorem one15law_ok {M : List Blk} (hm : Top M) (hsc : scM M.length M = true) (side : Int) {v1 v2 : V} {w f : List Int} (h1 : Sli M v1 w) (h2 : Sli M v2 f) : COk Tryd.prog 3 6 [I side, v1, v2] M (Bo true) M := by
  by_cases hside : 1 ≤ side ∧ side ≤ 32
  case neg =>
    have hno := new_noM side hside
    rcases h1 with ⟨rfl, rfl⟩ | ⟨j1, o1, rfl, h1⟩ <;> rcases h2 with ⟨rfl, rfl⟩ | ⟨j2, o2, rfl, h2⟩
    all_goals
      refine COk_quiet Tryd.f6 Tryd.func6 (by kernel_rfl) rfl ?_
      (conv => whnf); repeat (first | (refine ⟨_, _, awake15_ok hm hsc, ?_⟩; conv => whnf) | (refine ⟨_, awake15_ok hm hsc, ?_⟩; conv => whnf) | (refine ⟨_, _, hno _, ?_⟩; conv => whnf) | (refine ⟨_, hno _, ?_⟩; conv => whnf) | (refine br_d (by omega) ?_; conv => whnf) | (refine br_nd (by omega) ?_; conv => whnf) | (refine br_eq (by omega) ?_; conv => whnf) | (refine br_neq (by omega) ?_; conv => whnf) | (refine br_ne (by omega) ?_; conv => whnf) | (refine br_no (bo_eqn (by omega)) ?_; conv => whnf) | (refine setB_app ?_; conv => whnf) | (refine setB_app0 ?_; conv => whnf) | (rw [getB_app]; conv => whnf) | (rw [getB_app0]; conv => whnf) | (refine addB_f8 ?_; conv => whnf) | (refine addB_f7 ?_; conv => whnf) | (refine addB_f6 ?_; conv => whnf) | (refine addB_f5 ?_; conv => whnf) | (refine addB_f4 ?_; conv => whnf) | (refine addB_f3 ?_; conv => whnf) | (refine addB_f2 ?_; conv => whnf) | (refine addB_f1 ?_; conv => whnf) | (refine addB_f0 ?_; conv => whnf))
      exact ⟨rfl, [], by simp⟩
  obtain ⟨n, rfl⟩ : ∃ n : Nat, side = n := ⟨side.toNat, by omega⟩
  have hn : 1 ≤ n := by omega
  have hn' : n ≤ 32 := by omega
  have hnn : 1 ≤ n * n ∧ n * n ≤ 1024 := ⟨Nat.mul_pos hn hn, Nat.mul_le_mul hn' hn'⟩
  have hel := edges_len hn
  obtain ⟨b, M1, hnew, hN, u1⟩ := new_up hm hsc n hn hn'
  have hng := (hm.up u1).ng
  by_cases hw : w.length = 6 * (n * n)
  case neg =>
    rcases h1 with ⟨rfl, rfl⟩ | ⟨j1, o1, rfl, h1⟩ <;> rcases h2 with ⟨rfl, rfl⟩ | ⟨j2, o2, rfl, h2⟩
    all_goals
      (try rw [List.length_nil] at hw)
      refine COk_quiet Tryd.f6 Tryd.func6 (by kernel_rfl) rfl ?_
      (conv => whnf); repeat (first | (refine ⟨_, _, awake15_ok hm hsc, ?_⟩; conv => whnf) | (refine ⟨_, awake15_ok hm hsc, ?_⟩; conv => whnf) | (refine ⟨_, _, hnew, ?_⟩; conv => whnf) | (refine ⟨_, hnew, ?_⟩; conv => whnf) | (refine ⟨_, _, gcells_ok hN, ?_⟩; conv => whnf) | (refine ⟨_, gcells_ok hN, ?_⟩; conv => whnf) | (refine br_d (by omega) ?_; conv => whnf) | (refine br_nd (by omega) ?_; conv => whnf) | (refine br_eq (by omega) ?_; conv => whnf) | (refine br_neq (by omega) ?_; conv => whnf) | (refine br_ne (by omega) ?_; conv => whnf) | (refine br_no (bo_eqn (by omega)) ?_; conv => whnf) | (refine setB_app ?_; conv => whnf) | (refine setB_app0 ?_; conv => whnf) | (rw [getB_app]; conv => whnf) | (rw [getB_app0]; conv => whnf) | (refine addB_f8 ?_; conv => whnf) | (refine addB_f7 ?_; conv => whnf) | (refine addB_f6 ?_; conv => whnf) | (refine addB_f5 ?_; conv => whnf) | (refine addB_f4 ?_; conv => whnf) | (refine addB_f3 ?_; conv => whnf) | (refine addB_f2 ?_; conv => whnf) | (refine addB_f1 ?_; conv => whnf) | (refine addB_f0 ?_; conv => whnf))
      exact ⟨rfl, by simpa using u1.app []⟩
  obtain ⟨j1, o1, rfl, h1'⟩ := h1.sl (by omega)
  clear h1
  by_cases hf : f.length = 2
  case neg =>
    rcases h2 with ⟨rfl, rfl⟩ | ⟨j2, o2, rfl, h2⟩
    all_goals
      (try rw [List.length_nil] at hf)
      refine COk_quiet Tryd.f6 Tryd.func6 (by kernel_rfl) rfl ?_
      (conv => whnf); repeat (first | (refine ⟨_, _, awake15_ok hm hsc, ?_⟩; conv => whnf) | (refine ⟨_, awake15_ok hm hsc, ?_⟩; conv => whnf) | (refine ⟨_, _, hnew, ?_⟩; conv => whnf) | (refine ⟨_, hnew, ?_⟩; conv => whnf) | (refine ⟨_, _, gcells_ok hN, ?_⟩; conv => whnf) | (refine ⟨_, gcells_ok hN, ?_⟩; conv => whnf) | (refine br_d (by omega) ?_; conv => whnf) | (refine br_nd (by omega) ?_; conv => whnf) | (refine br_eq (by omega) ?_; conv => whnf) | (refine br_neq (by omega) ?_; conv => whnf) | (refine br_ne (by omega) ?_; conv => whnf) | (refine br_no (bo_eqn (by omega)) ?_; conv => whnf) | (refine setB_app ?_; conv => whnf) | (refine setB_app0 ?_; conv => whnf) | (rw [getB_app]; conv => whnf) | (rw [getB_app0]; conv => whnf) | (refine addB_f8 ?_; conv => whnf) | (refine addB_f7 ?_; conv => whnf) | (refine addB_f6 ?_; conv => whnf) | (refine addB_f5 ?_; conv => whnf) | (refine addB_f4 ?_; conv => whnf) | (refine addB_f3 ?_; conv => whnf) | (refine addB_f2 ?_; conv => whnf) | (refine addB_f1 ?_; conv => whnf) | (refine addB_f0 ?_; conv => whnf))
      exact ⟨rfl, by simpa using u1.app []⟩
  obtain ⟨j2, o2, rfl, h2'⟩ := h2.sl (by omega)
  clear h2
  have w1 := h1'.up u1
  have f1 := h2'.up u1
  have q1 := w1.lt
  have q2 := f1.lt
  have q3 := hN.lt
  by_cases hnn0 : ∀ k, k < w.length → 0 ≤ w.getD k 0
  case neg =>
    obtain ⟨k0, hk0, hnn0, hbad⟩ := first_bad hnn0
    refine COk_quiet Tryd.f6 Tryd.func6 (by kernel_rfl) rfl ?_
    (conv => whnf); repeat (first | (refine ⟨_, _, awake15_ok hm hsc, ?_⟩; conv => whnf) | (refine ⟨_, awake15_ok hm hsc, ?_⟩; conv => whnf) | (refine ⟨_, _, hnew, ?_⟩; conv => whnf) | (refine ⟨_, hnew, ?_⟩; conv => whnf) | (refine ⟨_, _, gcells_ok hN, ?_⟩; conv => whnf) | (refine ⟨_, gcells_ok hN, ?_⟩; conv => whnf) | (refine br_d (by omega) ?_; conv => whnf) | (refine br_nd (by omega) ?_; conv => whnf) | (refine br_eq (by omega) ?_; conv => whnf) | (refine br_neq (by omega) ?_; conv => whnf) | (refine br_ne (by omega) ?_; conv => whnf) | (refine br_no (bo_eqn (by omega)) ?_; conv => whnf) | (refine setB_app ?_; conv => whnf) | (refine setB_app0 ?_; conv => whnf) | (rw [getB_app]; conv => whnf) | (rw [getB_app0]; conv => whnf) | (refine addB_f8 ?_; conv => whnf) | (refine addB_f7 ?_; conv => whnf) | (refine addB_f6 ?_; conv => whnf) | (refine addB_f5 ?_; conv => whnf) | (refine addB_f4 ?_; conv => whnf) | (refine addB_f3 ?_; conv => whnf) | (refine addB_f2 ?_; conv => whnf) | (refine addB_f1 ?_; conv => whnf) | (refine addB_f0 ?_; conv => whnf))
    refine loop_to (fun k => [.any, .sl j1 o1 w.length, .sl j2 o2 f.length, .any, .any, .any, .any, .ptr (b + 1) 0, .any, I k, .any, .any, .any, .any, .any, .any, .any, .any, .any, .any, .any, .any, .any, .any, .any, .any, .any, .any, .any, .any, .any, .any, .any, .any, .any, .any, .any, .any, .any, .any, .any, .any, .any, .any, .any, .any, .any, .any, .any, .any, .any, .any, .any, .any, .any, .any, .any, .any, .any, .any, .any, .any, .any, .any, .any, .any, .any, .any, .any, .any, .any, .any, .any, .any, .any, .any, .any, .any, .any, .any, .any, .any, .any, .any, .any, .any, .any, .any, .any, .any, .any, .any, .any, .any, .any, .any, .any, .any, .any, .any, .any, .any, .any, .any, .any, .any, .any, .any, .any, .any, .any, .any, .any, .any, .any, .any, .any, .any, .any, .any, .any, .any, .any, .any, .any, .any, .any, .any, .any, .any, .any, .any, .any, .any, .any, .any, .any, .any, .any, .any, .any, .any, .any, .any, .any, .any, .any, .any, .any, .any, .any, .any, .any, .any, .any, .any, .any, .any, .any, .any, .any, .any, .any, .any, .any, .any, .any]) (fun _ => M1) 0 k0 (by omega) ?_ ?_ ?_
    · refine Fg.of [] ?_ (by rw [List.append_nil]) (by simp) (by (simp [scL, V.sc]) <;> omega) u1.sc
      conv => whnf
      exact ⟨rfl, rfl, rfl, rfl, rfl⟩
    · intro k _ hk
      have hk0 := hnn0 k hk
      have hk : k < w.length := by omega
      (conv => whnf); repeat (first | (refine SlI.at w1 (i := k) hk rfl ?_; conv => whnf) | (refine br_d (by omega) ?_; conv => whnf) | (refine br_nd (by omega) ?_; conv => whnf) | (refine br_eq (by omega) ?_; conv => whnf) | (refine br_neq (by omega) ?_; conv => whnf) | (refine br_ne (by omega) ?_; conv => whnf) | (refine br_no (bo_eqn (by omega)) ?_; conv => whnf) | (refine setB_app ?_; conv => whnf) | (refine setB_app0 ?_; conv => whnf) | (rw [getB_app]; conv => whnf) | (rw [getB_app0]; conv => whnf) | (refine addB_f8 ?_; conv => whnf) | (refine addB_f7 ?_; conv => whnf) | (refine addB_f6 ?_; conv => whnf) | (refine addB_f5 ?_; conv => whnf) | (refine addB_f4 ?_; conv => whnf) | (refine addB_f3 ?_; conv => whnf) | (refine addB_f2 ?_; conv => whnf) | (refine addB_f1 ?_; conv => whnf) | (refine addB_f0 ?_; conv => whnf))
      refine Fg.of [] ?_ (by rw [List.append_nil]) (by simp) (by (simp [scL, V.sc]) <;> omega) u1.sc
      conv => whnf
      exact ⟨rfl, rfl, rfl, wrapKL (by omega), rfl⟩
    · (conv => whnf); repeat (first | (refine SlI.at w1 (i := k0) hk0 rfl ?_; conv => whnf) | (refine br_d (by omega) ?_; conv => whnf) | (refine br_nd (by omega) ?_; conv => whnf) | (refine br_eq (by omega) ?_; conv => whnf) | (refine br_neq (by omega) ?_; conv => whnf) | (refine br_ne (by omega) ?_; conv => whnf) | (refine br_no (bo_eqn (by omega)) ?_; conv => whnf) | (refine setB_app ?_; conv => whnf) | (refine setB_app0 ?_; conv => whnf) | (rw [getB_app]; conv => whnf) | (rw [getB_app0]; conv => whnf) | (refine addB_f8 ?_; conv => whnf) | (refine addB_f7 ?_; conv => whnf) | (refine addB_f6 ?_; conv => whnf) | (refine addB_f5 ?_; conv => whnf) | (refine addB_f4 ?_; conv => whnf) | (refine addB_f3 ?_; conv => whnf) | (refine addB_f2 ?_; conv => whnf) | (refine addB_f1 ?_; conv => whnf) | (refine addB_f0 ?_; conv => whnf))
      exact ⟨rfl, by simpa using u1.app []⟩
  have hKw : IntKind.u64.wrap ((edges n).length : Int) = (edges n).length := wrap_u (by omega) (by omega)
  obtain ⟨r, hr, hrw⟩ := mod_nat (f.getD 0 0) (edges n).length (by omega) (by omega)
  obtain ⟨x, hx⟩ : ∃ x, (edges n)[r]? = some x := ⟨_, List.getElem?_eq_getElem hr⟩
  obtain ⟨p1, _, p3, p4, _⟩ := edge_of hn hx
  have hL : x.1 < w.length := by omega
  have hR : x.2.2.1 < w.length := by omega
  have hwL := w1.wf x.1 hL
  have hwR := w1.wf x.2.2.1 hR
  have h0L := hnn0 x.1 hL
  have h0R := hnn0 x.2.2.1 hR
  have hq := f1.wf 1 (by omega)
  have ub : Up M1 (M1 ++ [⟨true, .cells [I x.1, I x.2.1, I x.2.2.1, I x.2.2.2]⟩]) := Up.of u1.sc rfl
  obtain ⟨M2, hone, u2, s2⟩ := one15_ok ub.sc (edges n).length r (f.getD 1 0) hr (by omega) hq
  have hng2 : 3 ≤ M2.length := by have := (ub.trans u2).len; omega
  have hbox2 : getB M2 M1.length = ⟨true, .cells [I x.1, I x.2.1, I x.2.2.1, I x.2.2.2]⟩ := getB_up u2 getB_app0 rfl
  have ub2 := ub.trans u2
  have w2 := w1.up ub2
  have hto := fun c => tot_one (w := w) (q := f.getD 1 0) hx hr c
  have tL : tot n w (tab (edges n).length (oneF r (f.getD 1 0))) x.1 = w.getD x.1 0 - f.getD 1 0 := by
    rw [hto, if_pos rfl, if_neg (by omega)]; omega
  have tR : tot n w (tab (edges n).length (oneF r (f.getD 1 0))) x.2.2.1 = w.getD x.2.2.1 0 + f.getD 1 0 := by
    rw [hto, if_neg (by omega), if_pos rfl]; omega
  have tO : ∀ c, c ≠ x.1 → c ≠ x.2.2.1 → tot n w (tab (edges n).length (oneF r (f.getD 1 0))) c = w.getD c 0 := by
    intro c h h'
    rw [hto, if_neg (Ne.symm h), if_neg (Ne.symm h')]; omega
  by_cases hg : ∀ c, c < w.length → 0 ≤ tot n w (tab (edges n).length (oneF r (f.getD 1 0))) c ∧ tot n w (tab (edges n).length (oneF r (f.getD 1 0))) c < 9223372036854775808
  case neg =>
    obtain ⟨c0, hc0, hlo, hbad⟩ := first_bad hg
    have hmv := move_not hng2 u2.sc (hN.up ub2) hn hn' w2 s2 hw (by rw [tab_len]) hc0 hlo hbad
    rw [tab_len] at hmv
    have hwhy : ¬ (0 ≤ w.getD x.1 0 - f.getD 1 0 ∧ w.getD x.2.2.1 0 + f.getD 1 0 < 9223372036854775808 ∧ w.getD x.1 0 - f.getD 1 0 < 9223372036854775808 ∧ 0 ≤ w.getD x.2.2.1 0 + f.getD 1 0) := by
      intro h
      by_cases c1 : c0 = x.1
      · rw [c1, tL] at hbad; omega
      · by_cases c2 : c0 = x.2.2.1
        · rw [c2, tR] at hbad; omega
        · rw [tO c0 c1 c2] at hbad
          have := w1.wf c0 hc0
          have := hnn0 c0 hc0
          omega
    generalize hqq : f.getD 1 0 = q at *
    refine COk_quiet Tryd.f6 Tryd.func6 (by kernel_rfl) rfl ?_
    (conv => whnf); repeat (first | (refine ⟨_, _, awake15_ok hm hsc, ?_⟩; conv => whnf) | (refine ⟨_, awake15_ok hm hsc, ?_⟩; conv => whnf) | (refine ⟨_, _, hnew, ?_⟩; conv => whnf) | (refine ⟨_, hnew, ?_⟩; conv => whnf) | (refine ⟨_, _, gcells_ok hN, ?_⟩; conv => whnf) | (refine ⟨_, gcells_ok hN, ?_⟩; conv => whnf) | (refine br_d (by omega) ?_; conv => whnf) | (refine br_nd (by omega) ?_; conv => whnf) | (refine br_eq (by omega) ?_; conv => whnf) | (refine br_neq (by omega) ?_; conv => whnf) | (refine br_ne (by omega) ?_; conv => whnf) | (refine br_no (bo_eqn (by omega)) ?_; conv => whnf) | (refine setB_app ?_; conv => whnf) | (refine setB_app0 ?_; conv => whnf) | (rw [getB_app]; conv => whnf) | (rw [getB_app0]; conv => whnf) | (refine addB_f8 ?_; conv => whnf) | (refine addB_f7 ?_; conv => whnf) | (refine addB_f6 ?_; conv => whnf) | (refine addB_f5 ?_; conv => whnf) | (refine addB_f4 ?_; conv => whnf) | (refine addB_f3 ?_; conv => whnf) | (refine addB_f2 ?_; conv => whnf) | (refine addB_f1 ?_; conv => whnf) | (refine addB_f0 ?_; conv => whnf))
    refine loop_to (fun k => [.any, .sl j1 o1 w.length, .sl j2 o2 f.length, .any, .any, .any, .any, .ptr (b + 1) 0, .any, I k, .any, .any, .any, .any, .any, .any, .any, .any, .any, .any, .any, .any, .any, .any, .any, .any, .any, .any, .any, .any, .any, .any, .any, .any, .any, .any, .any, .any, .any, .any, .any, .any, .any, .any, .any, .any, .any, .any, .any, .any, .any, .any, .any, .any, .any, .any, .any, .any, .any, .any, .any, .any, .any, .any, .any, .any, .any, .any, .any, .any, .any, .any, .any, .any, .any, .any, .any, .any, .any, .any, .any, .any, .any, .any, .any, .any, .any, .any, .any, .any, .any, .any, .any, .any, .any, .any, .any, .any, .any, .any, .any, .any, .any, .any, .any, .any, .any, .any, .any, .any, .any, .any, .any, .any, .any, .any, .any, .any, .any, .any, .any, .any, .any, .any, .any, .any, .any, .any, .any, .any, .any, .any, .any, .any, .any, .any, .any, .any, .any, .any, .any, .any, .any, .any, .any, .any, .any, .any, .any, .any, .any, .any, .any, .any, .any, .any, .any, .any, .any, .any, .any, .any, .any, .any, .any, .any, .any]) (fun _ => M1) 0 w.length (by omega) ?_ ?_ ?_
    · refine Fg.of [] ?_ (by rw [List.append_nil]) (by simp) (by (simp [scL, V.sc]) <;> omega) u1.sc
      conv => whnf
      exact ⟨rfl, rfl, rfl, rfl, rfl⟩
    · intro k _ hk
      have hk0 := hnn0 k hk
      have hk : k < w.length := by omega
      (conv => whnf); repeat (first | (refine SlI.at w1 (i := k) hk rfl ?_; conv => whnf) | (refine br_d (by omega) ?_; conv => whnf) | (refine br_nd (by omega) ?_; conv => whnf) | (refine br_eq (by omega) ?_; conv => whnf) | (refine br_neq (by omega) ?_; conv => whnf) | (refine br_ne (by omega) ?_; conv => whnf) | (refine br_no (bo_eqn (by omega)) ?_; conv => whnf) | (refine setB_app ?_; conv => whnf) | (refine setB_app0 ?_; conv => whnf) | (rw [getB_app]; conv => whnf) | (rw [getB_app0]; conv => whnf) | (refine addB_f8 ?_; conv => whnf) | (refine addB_f7 ?_; conv => whnf) | (refine addB_f6 ?_; conv => whnf) | (refine addB_f5 ?_; conv => whnf) | (refine addB_f4 ?_; conv => whnf) | (refine addB_f3 ?_; conv => whnf) | (refine addB_f2 ?_; conv => whnf) | (refine addB_f1 ?_; conv => whnf) | (refine addB_f0 ?_; conv => whnf))
      refine Fg.of [] ?_ (by rw [List.append_nil]) (by simp) (by (simp [scL, V.sc]) <;> omega) u1.sc
      conv => whnf
      exact ⟨rfl, rfl, rfl, wrapKL (by omega), rfl⟩
    rcases (by omega : q = -9223372036854775808 ∨ (-9223372036854775808 < q ∧ q < 0) ∨ 0 ≤ q) with hs | hs | hs
    · (conv => whnf); repeat (first | (refine SlI.at f1 (i := 0) (by omega) rfl ?_; conv => whnf) | (refine ⟨_, _, gedges_ok hN, ?_⟩; conv => whnf) | (refine ⟨_, gedges_ok hN, ?_⟩; conv => whnf) | (rw [hKw]; conv => whnf) | (rw [hrw]; conv => whnf) | (refine ⟨_, _, edge_ok hN r x hx, ?_⟩; conv => whnf) | (refine ⟨_, edge_ok hN r x hx, ?_⟩; conv => whnf) | (refine SlI.at (f1.app _) (i := 1) (by omega) rfl ?_; conv => whnf) | (rw [hqq]; conv => whnf) | (refine ⟨_, _, gedges_ok (hN.more _), ?_⟩; conv => whnf) | (refine ⟨_, gedges_ok (hN.more _), ?_⟩; conv => whnf) | (refine ⟨_, _, hone, ?_⟩; conv => whnf) | (refine ⟨_, hone, ?_⟩; conv => whnf) | (refine ⟨_, _, hmv, ?_⟩; conv => whnf) | (refine ⟨_, hmv, ?_⟩; conv => whnf) | (rw [hbox2]; conv => whnf) | (refine br_d (by omega) ?_; conv => whnf) | (refine br_nd (by omega) ?_; conv => whnf) | (refine br_eq (by omega) ?_; conv => whnf) | (refine br_neq (by omega) ?_; conv => whnf) | (refine br_ne (by omega) ?_; conv => whnf) | (refine br_no (bo_eqn (by omega)) ?_; conv => whnf) | (refine setB_app ?_; conv => whnf) | (refine setB_app0 ?_; conv => whnf) | (rw [getB_app]; conv => whnf) | (rw [getB_app0]; conv => whnf) | (refine addB_f8 ?_; conv => whnf) | (refine addB_f7 ?_; conv => whnf) | (refine addB_f6 ?_; conv => whnf) | (refine addB_f5 ?_; conv => whnf) | (refine addB_f4 ?_; conv => whnf) | (refine addB_f3 ?_; conv => whnf) | (refine addB_f2 ?_; conv => whnf) | (refine addB_f1 ?_; conv => whnf) | (refine addB_f0 ?_; conv => whnf))
      exact ⟨rfl, by simpa using (u1.trans ub2).app []⟩
    · have e0 : IntKind.i64.wrap (0 - q) = -q := by rw [wrap_id (by omega) (by omega)]; omega
      have e1 : IntKind.i64.wrap (9223372036854775807 - -q) = 9223372036854775807 + q := by rw [wrap_id (by omega) (by omega)]; omega
      by_cases hfr : w.getD x.2.2.1 0 < -q
      · (conv => whnf); repeat (first | (refine SlI.at f1 (i := 0) (by omega) rfl ?_; conv => whnf) | (refine ⟨_, _, gedges_ok hN, ?_⟩; conv => whnf) | (refine ⟨_, gedges_ok hN, ?_⟩; conv => whnf) | (rw [hKw]; conv => whnf) | (rw [hrw]; conv => whnf) | (refine ⟨_, _, edge_ok hN r x hx, ?_⟩; conv => whnf) | (refine ⟨_, edge_ok hN r x hx, ?_⟩; conv => whnf) | (refine SlI.at (f1.app _) (i := 1) (by omega) rfl ?_; conv => whnf) | (rw [hqq]; conv => whnf) | (refine ⟨_, _, gedges_ok (hN.more _), ?_⟩; conv => whnf) | (refine ⟨_, gedges_ok (hN.more _), ?_⟩; conv => whnf) | (refine ⟨_, _, hone, ?_⟩; conv => whnf) | (refine ⟨_, hone, ?_⟩; conv => whnf) | (refine ⟨_, _, hmv, ?_⟩; conv => whnf) | (refine ⟨_, hmv, ?_⟩; conv => whnf) | (rw [hbox2]; conv => whnf) | (refine SlI.at w2 (i := x.2.2.1) hR rfl ?_; conv => whnf) | (rw [e0]; conv => whnf) | (refine br_d (by omega) ?_; conv => whnf) | (refine br_nd (by omega) ?_; conv => whnf) | (refine br_eq (by omega) ?_; conv => whnf) | (refine br_neq (by omega) ?_; conv => whnf) | (refine br_ne (by omega) ?_; conv => whnf) | (refine br_no (bo_eqn (by omega)) ?_; conv => whnf) | (refine setB_app ?_; conv => whnf) | (refine setB_app0 ?_; conv => whnf) | (rw [getB_app]; conv => whnf) | (rw [getB_app0]; conv => whnf) | (refine addB_f8 ?_; conv => whnf) | (refine addB_f7 ?_; conv => whnf) | (refine addB_f6 ?_; conv => whnf) | (refine addB_f5 ?_; conv => whnf) | (refine addB_f4 ?_; conv => whnf) | (refine addB_f3 ?_; conv => whnf) | (refine addB_f2 ?_; conv => whnf) | (refine addB_f1 ?_; conv => whnf) | (refine addB_f0 ?_; conv => whnf))
        exact ⟨rfl, by simpa using (u1.trans ub2).app []⟩
      · (conv => whnf); repeat (first | (refine SlI.at f1 (i := 0) (by omega) rfl ?_; conv => whnf) | (refine ⟨_, _, gedges_ok hN, ?_⟩; conv => whnf) | (refine ⟨_, gedges_ok hN, ?_⟩; conv => whnf) | (rw [hKw]; conv => whnf) | (rw [hrw]; conv => whnf) | (refine ⟨_, _, edge_ok hN r x hx, ?_⟩; conv => whnf) | (refine ⟨_, edge_ok hN r x hx, ?_⟩; conv => whnf) | (refine SlI.at (f1.app _) (i := 1) (by omega) rfl ?_; conv => whnf) | (rw [hqq]; conv => whnf) | (refine ⟨_, _, gedges_ok (hN.more _), ?_⟩; conv => whnf) | (refine ⟨_, gedges_ok (hN.more _), ?_⟩; conv => whnf) | (refine ⟨_, _, hone, ?_⟩; conv => whnf) | (refine ⟨_, hone, ?_⟩; conv => whnf) | (refine ⟨_, _, hmv, ?_⟩; conv => whnf) | (refine ⟨_, hmv, ?_⟩; conv => whnf) | (rw [hbox2]; conv => whnf) | (refine SlI.at w2 (i := x.2.2.1) hR rfl ?_; conv => whnf) | (refine SlI.at w2 (i := x.1) hL rfl ?_; conv => whnf) | (rw [e0]; conv => whnf) | (rw [e1]; conv => whnf) | (refine br_d (by omega) ?_; conv => whnf) | (refine br_nd (by omega) ?_; conv => whnf) | (refine br_eq (by omega) ?_; conv => whnf) | (refine br_neq (by omega) ?_; conv => whnf) | (refine br_ne (by omega) ?_; conv => whnf) | (refine br_no (bo_eqn (by omega)) ?_; conv => whnf) | (refine setB_app ?_; conv => whnf) | (refine setB_app0 ?_; conv => whnf) | (rw [getB_app]; conv => whnf) | (rw [getB_app0]; conv => whnf) | (refine addB_f8 ?_; conv => whnf) | (refine addB_f7 ?_; conv => whnf) | (refine addB_f6 ?_; conv => whnf) | (refine addB_f5 ?_; conv => whnf) | (refine addB_f4 ?_; conv => whnf) | (refine addB_f3 ?_; conv => whnf) | (refine addB_f2 ?_; conv => whnf) | (refine addB_f1 ?_; conv => whnf) | (refine addB_f0 ?_; conv => whnf))
        exact ⟨rfl, by simpa using (u1.trans ub2).app []⟩
    · have e1 : IntKind.i64.wrap (9223372036854775807 - q) = 9223372036854775807 - q := by rw [wrap_id (by omega) (by omega)]
      by_cases hfr : w.getD x.1 0 < q
      · (conv => whnf); repeat (first | (refine SlI.at f1 (i := 0) (by omega) rfl ?_; conv => whnf) | (refine ⟨_, _, gedges_ok hN, ?_⟩; conv => whnf) | (refine ⟨_, gedges_ok hN, ?_⟩; conv => whnf) | (rw [hKw]; conv => whnf) | (rw [hrw]; conv => whnf) | (refine ⟨_, _, edge_ok hN r x hx, ?_⟩; conv => whnf) | (refine ⟨_, edge_ok hN r x hx, ?_⟩; conv => whnf) | (refine SlI.at (f1.app _) (i := 1) (by omega) rfl ?_; conv => whnf) | (rw [hqq]; conv => whnf) | (refine ⟨_, _, gedges_ok (hN.more _), ?_⟩; conv => whnf) | (refine ⟨_, gedges_ok (hN.more _), ?_⟩; conv => whnf) | (refine ⟨_, _, hone, ?_⟩; conv => whnf) | (refine ⟨_, hone, ?_⟩; conv => whnf) | (refine ⟨_, _, hmv, ?_⟩; conv => whnf) | (refine ⟨_, hmv, ?_⟩; conv => whnf) | (rw [hbox2]; conv => whnf) | (refine SlI.at w2 (i := x.1) hL rfl ?_; conv => whnf) | (refine br_d (by omega) ?_; conv => whnf) | (refine br_nd (by omega) ?_; conv => whnf) | (refine br_eq (by omega) ?_; conv => whnf) | (refine br_neq (by omega) ?_; conv => whnf) | (refine br_ne (by omega) ?_; conv => whnf) | (refine br_no (bo_eqn (by omega)) ?_; conv => whnf) | (refine setB_app ?_; conv => whnf) | (refine setB_app0 ?_; conv => whnf) | (rw [getB_app]; conv => whnf) | (rw [getB_app0]; conv => whnf) | (refine addB_f8 ?_; conv => whnf) | (refine addB_f7 ?_; conv => whnf) | (refine addB_f6 ?_; conv => whnf) | (refine addB_f5 ?_; conv => whnf) | (refine addB_f4 ?_; conv => whnf) | (refine addB_f3 ?_; conv => whnf) | (refine addB_f2 ?_; conv => whnf) | (refine addB_f1 ?_; conv => whnf) | (refine addB_f0 ?_; conv => whnf))
        exact ⟨rfl, by simpa using (u1.trans ub2).app []⟩
      · (conv => whnf); repeat (first | (refine SlI.at f1 (i := 0) (by omega) rfl ?_; conv => whnf) | (refine ⟨_, _, gedges_ok hN, ?_⟩; conv => whnf) | (refine ⟨_, gedges_ok hN, ?_⟩; conv => whnf) | (rw [hKw]; conv => whnf) | (rw [hrw]; conv => whnf) | (refine ⟨_, _, edge_ok hN r x hx, ?_⟩; conv => whnf) | (refine ⟨_, edge_ok hN r x hx, ?_⟩; conv => whnf) | (refine SlI.at (f1.app _) (i := 1) (by omega) rfl ?_; conv => whnf) | (rw [hqq]; conv => whnf) | (refine ⟨_, _, gedges_ok (hN.more _), ?_⟩; conv => whnf) | (refine ⟨_, gedges_ok (hN.more _), ?_⟩; conv => whnf) | (refine ⟨_, _, hone, ?_⟩; conv => whnf) | (refine ⟨_, hone, ?_⟩; conv => whnf) | (refine ⟨_, _, hmv, ?_⟩; conv => whnf) | (refine ⟨_, hmv, ?_⟩; conv => whnf) | (rw [hbox2]; conv => whnf) | (refine SlI.at w2 (i := x.1) hL rfl ?_; conv => whnf) | (refine SlI.at w2 (i := x.2.2.1) hR rfl ?_; conv => whnf) | (rw [e1]; conv => whnf) | (refine br_d (by omega) ?_; conv => whnf) | (refine br_nd (by omega) ?_; conv => whnf) | (refine br_eq (by omega) ?_; conv => whnf) | (refine br_neq (by omega) ?_; conv => whnf) | (refine br_ne (by omega) ?_; conv => whnf) | (refine br_no (bo_eqn (by omega)) ?_; conv => whnf) | (refine setB_app ?_; conv => whnf) | (refine setB_app0 ?_; conv => whnf) | (rw [getB_app]; conv => whnf) | (rw [getB_app0]; conv => whnf) | (refine addB_f8 ?_; conv => whnf) | (refine addB_f7 ?_; conv => whnf) | (refine addB_f6 ?_; conv => whnf) | (refine addB_f5 ?_; conv => whnf) | (refine addB_f4 ?_; conv => whnf) | (refine addB_f3 ?_; conv => whnf) | (refine addB_f2 ?_; conv => whnf) | (refine addB_f1 ?_; conv => whnf) | (refine addB_f0 ?_; conv => whnf))
        exact ⟨rfl, by simpa using (u1.trans ub2).app []⟩
  obtain ⟨M3, hmv, u3, s3⟩ := move_up hng2 u2.sc (hN.up ub2) hn hn' w2 s2 hw (by rw [tab_len]) hg
  rw [tab_len] at hmv
  have hbox3 : getB M3 M1.length = ⟨true, .cells [I x.1, I x.2.1, I x.2.2.1, I x.2.2.2]⟩ := getB_up u3 hbox2 rfl
  have w3 := w2.up u3
  have uall := (u1.trans ub2).trans u3
  have l1 := w3.lt
  have l2 := s3.lt
  have gL := hg x.1 hL
  have gR := hg x.2.2.1 hR
  have hsk : ∀ k, k < w.length → ∀ K : V → Prop, K (.int .i64 (tot n w (tab (edges n).length (oneF r (f.getD 1 0))) k)) → rd1 (getB M3 (M2.length + 1)).b (0 + k * 1) K := fun k hk K hK => SlI.at s3 (i := k) (by rw [tab_len]; exact hk) rfl (by rw [tab_get hk]; exact hK)
  rw [tL] at gL
  rw [tR] at gR
  have skL : ∀ K : V → Prop, K (.int .i64 (w.getD x.1 0 - f.getD 1 0)) → rd1 (getB M3 (M2.length + 1)).b (0 + x.1 * 1) K := fun K hK => hsk x.1 hL K (by rw [tL]; exact hK)
  have skR : ∀ K : V → Prop, K (.int .i64 (w.getD x.2.2.1 0 + f.getD 1 0)) → rd1 (getB M3 (M2.length + 1)).b (0 + x.2.2.1 * 1) K := fun K hK => hsk x.2.2.1 hR K (by rw [tR]; exact hK)
  clear tL tR hto
  generalize hqq : f.getD 1 0 = q at *
  refine COk_quiet Tryd.f6 Tryd.func6 (by kernel_rfl) rfl ?_
  (conv => whnf); repeat (first | (refine ⟨_, _, awake15_ok hm hsc, ?_⟩; conv => whnf) | (refine ⟨_, awake15_ok hm hsc, ?_⟩; conv => whnf) | (refine ⟨_, _, hnew, ?_⟩; conv => whnf) | (refine ⟨_, hnew, ?_⟩; conv => whnf) | (refine ⟨_, _, gcells_ok hN, ?_⟩; conv => whnf) | (refine ⟨_, gcells_ok hN, ?_⟩; conv => whnf) | (refine br_d (by omega) ?_; conv => whnf) | (refine br_nd (by omega) ?_; conv => whnf) | (refine br_eq (by omega) ?_; conv => whnf) | (refine br_neq (by omega) ?_; conv => whnf) | (refine br_ne (by omega) ?_; conv => whnf) | (refine br_no (bo_eqn (by omega)) ?_; conv => whnf) | (refine setB_app ?_; conv => whnf) | (refine setB_app0 ?_; conv => whnf) | (rw [getB_app]; conv => whnf) | (rw [getB_app0]; conv => whnf) | (refine addB_f8 ?_; conv => whnf) | (refine addB_f7 ?_; conv => whnf) | (refine addB_f6 ?_; conv => whnf) | (refine addB_f5 ?_; conv => whnf) | (refine addB_f4 ?_; conv => whnf) | (refine addB_f3 ?_; conv => whnf) | (refine addB_f2 ?_; conv => whnf) | (refine addB_f1 ?_; conv => whnf) | (refine addB_f0 ?_; conv => whnf))
  refine loop_to (fun k => [.any, .sl j1 o1 w.length, .sl j2 o2 f.length, .any, .any, .any, .any, .ptr (b + 1) 0, .any, I k, .any, .any, .any, .any, .any, .any, .any, .any, .any, .any, .any, .any, .any, .any, .any, .any, .any, .any, .any, .any, .any, .any, .any, .any, .any, .any, .any, .any, .any, .any, .any, .any, .any, .any, .any, .any, .any, .any, .any, .any, .any, .any, .any, .any, .any, .any, .any, .any, .any, .any, .any, .any, .any, .any, .any, .any, .any, .any, .any, .any, .any, .any, .any, .any, .any, .any, .any, .any, .any, .any, .any, .any, .any, .any, .any, .any, .any, .any, .any, .any, .any, .any, .any, .any, .any, .any, .any, .any, .any, .any, .any, .any, .any, .any, .any, .any, .any, .any, .any, .any, .any, .any, .any, .any, .any, .any, .any, .any, .any, .any, .any, .any, .any, .any, .any, .any, .any, .any, .any, .any, .any, .any, .any, .any, .any, .any, .any, .any, .any, .any, .any, .any, .any, .any, .any, .any, .any, .any, .any, .any, .any, .any, .any, .any, .any, .any, .any, .any, .any, .any, .any, .any, .any, .any, .any, .any, .any]) (fun _ => M1) 0 w.length (by omega) ?_ ?_ ?_
  · refine Fg.of [] ?_ (by rw [List.append_nil]) (by simp) (by (simp [scL, V.sc]) <;> omega) u1.sc
    conv => whnf
    exact ⟨rfl, rfl, rfl, rfl, rfl⟩
  · intro k _ hk
    have hk0 := hnn0 k hk
    have hk : k < w.length := by omega
    (conv => whnf); repeat (first | (refine SlI.at w1 (i := k) hk rfl ?_; conv => whnf) | (refine br_d (by omega) ?_; conv => whnf) | (refine br_nd (by omega) ?_; conv => whnf) | (refine br_eq (by omega) ?_; conv => whnf) | (refine br_neq (by omega) ?_; conv => whnf) | (refine br_ne (by omega) ?_; conv => whnf) | (refine br_no (bo_eqn (by omega)) ?_; conv => whnf) | (refine setB_app ?_; conv => whnf) | (refine setB_app0 ?_; conv => whnf) | (rw [getB_app]; conv => whnf) | (rw [getB_app0]; conv => whnf) | (refine addB_f8 ?_; conv => whnf) | (refine addB_f7 ?_; conv => whnf) | (refine addB_f6 ?_; conv => whnf) | (refine addB_f5 ?_; conv => whnf) | (refine addB_f4 ?_; conv => whnf) | (refine addB_f3 ?_; conv => whnf) | (refine addB_f2 ?_; conv => whnf) | (refine addB_f1 ?_; conv => whnf) | (refine addB_f0 ?_; conv => whnf))
    refine Fg.of [] ?_ (by rw [List.append_nil]) (by simp) (by (simp [scL, V.sc]) <;> omega) u1.sc
    conv => whnf
    exact ⟨rfl, rfl, rfl, wrapKL (by omega), rfl⟩
  rcases (by omega : (-9223372036854775808 < q ∧ q < 0) ∨ 0 ≤ q) with hs | hs
  · have e0 : IntKind.i64.wrap (0 - q) = -q := by rw [wrap_id (by omega) (by omega)]; omega
    have e1 : IntKind.i64.wrap (9223372036854775807 - -q) = 9223372036854775807 + q := by rw [wrap_id (by omega) (by omega)]; omega
    have e2 : w.getD x.2.2.1 0 + q = IntKind.i64.wrap (w.getD x.2.2.1 0 - -q) := by rw [wrap_id (by omega) (by omega)]; omega
    have e3 : w.getD x.1 0 - q = IntKind.i64.wrap (w.getD x.1 0 + -q) := by rw [wrap_id (by omega) (by omega)]; omega
    (conv => whnf); repeat (first | (refine SlI.at f1 (i := 0) (by omega) rfl ?_; conv => whnf) | (refine ⟨_, _, gedges_ok hN, ?_⟩; conv => whnf) | (refine ⟨_, gedges_ok hN, ?_⟩; conv => whnf) | (rw [hKw]; conv => whnf) | (rw [hrw]; conv => whnf) | (refine ⟨_, _, edge_ok hN r x hx, ?_⟩; conv => whnf) | (refine ⟨_, edge_ok hN r x hx, ?_⟩; conv => whnf) | (refine SlI.at (f1.app _) (i := 1) (by omega) rfl ?_; conv => whnf) | (rw [hqq]; conv => whnf) | (refine ⟨_, _, gedges_ok (hN.more _), ?_⟩; conv => whnf) | (refine ⟨_, gedges_ok (hN.more _), ?_⟩; conv => whnf) | (refine ⟨_, _, hone, ?_⟩; conv => whnf) | (refine ⟨_, hone, ?_⟩; conv => whnf) | (refine ⟨_, _, hmv, ?_⟩; conv => whnf) | (refine ⟨_, hmv, ?_⟩; conv => whnf) | (rw [hbox3]; conv => whnf) | (refine SlI.at w3 (i := x.2.2.1) hR rfl ?_; conv => whnf) | (refine SlI.at w3 (i := x.1) hL rfl ?_; conv => whnf) | (rw [e0]; conv => whnf) | (rw [e1]; conv => whnf) | (refine skL _ ?_; conv => whnf) | (refine skR _ ?_; conv => whnf) | (refine br_no (bo_eqn e2) ?_; conv => whnf) | (refine br_no (bo_eqn e3) ?_; conv => whnf) | (refine br_d (by omega) ?_; conv => whnf) | (refine br_nd (by omega) ?_; conv => whnf) | (refine br_eq (by omega) ?_; conv => whnf) | (refine br_neq (by omega) ?_; conv => whnf) | (refine br_ne (by omega) ?_; conv => whnf) | (refine br_no (bo_eqn (by omega)) ?_; conv => whnf) | (refine setB_app ?_; conv => whnf) | (refine setB_app0 ?_; conv => whnf) | (rw [getB_app]; conv => whnf) | (rw [getB_app0]; conv => whnf) | (refine addB_f8 ?_; conv => whnf) | (refine addB_f7 ?_; conv => whnf) | (refine addB_f6 ?_; conv => whnf) | (refine addB_f5 ?_; conv => whnf) | (refine addB_f4 ?_; conv => whnf) | (refine addB_f3 ?_; conv => whnf) | (refine addB_f2 ?_; conv => whnf) | (refine addB_f1 ?_; conv => whnf) | (refine addB_f0 ?_; conv => whnf))
    refine loop_to (fun k => [.any, .sl j1 o1 w.length, .any, .any, .any, .any, .any, .any, .any, .any, .any, .any, .any, .any, .sl (M2.length + 1) 0 w.length, I x.2.2.1, I x.1, I k, .any, .any, .any, .any, .any, .any, .any, .any, .any, .any, .any, .any, .any, .any, .any, .any, .any, .any, .any, .any, .any, .any, .any, .any, .any, .any, .any, .any, .any, .any, .any, .any, .any, .any, .any, .any, .any, .any, .any, .any, .any, .any, .any, .any, .any, .any, .any, .any, .any, .any, .any, .any, .any, .any, .any, .any, .any, .any, .any, .any, .any, .any, .any, .any, .any, .any, .any, .any, .any, .any, .any, .any, .any, .any, .any, .any, .any, .any, .any, .any, .any, .any, .any, .any, .any, .any, .any, .any, .any, .any, .any, .any, .any, .any, .any, .any, .any, .any, .any, .any, .any, .any, .any, .any, .any, .any, .any, .any, .any, .any, .any, .any, .any, .any, .any, .any, .any, .any, .any, .any, .any, .any, .any, .any, .any, .any, .any, .any, .any, .any, .any, .any, .any, .any, .any, .any, .any, .any, .any, .any, .any, .any, .any, .any, .any, .any, .any, .any, .any]) (fun _ => M3) 0 w.length (Nat.zero_le _) ?_ ?_ ?_
    · refine Fg.of [] ?_ (by rw [List.append_nil]) (by simp) (by (simp [scL, V.sc]) <;> omega) u3.sc
      conv => whnf
      exact ⟨rfl, rfl, rfl, rfl, rfl, rfl⟩
    · intro k _ hk
      by_cases c1 : k = x.1
      · subst c1
        (conv => whnf); repeat (first | (refine br_d (by omega) ?_; conv => whnf) | (refine br_nd (by omega) ?_; conv => whnf) | (refine br_eq (by omega) ?_; conv => whnf) | (refine br_neq (by omega) ?_; conv => whnf) | (refine br_ne (by omega) ?_; conv => whnf) | (refine br_no (bo_eqn (by omega)) ?_; conv => whnf) | (refine setB_app ?_; conv => whnf) | (refine setB_app0 ?_; conv => whnf) | (rw [getB_app]; conv => whnf) | (rw [getB_app0]; conv => whnf) | (refine addB_f8 ?_; conv => whnf) | (refine addB_f7 ?_; conv => whnf) | (refine addB_f6 ?_; conv => whnf) | (refine addB_f5 ?_; conv => whnf) | (refine addB_f4 ?_; conv => whnf) | (refine addB_f3 ?_; conv => whnf) | (refine addB_f2 ?_; conv => whnf) | (refine addB_f1 ?_; conv => whnf) | (refine addB_f0 ?_; conv => whnf))
        refine Fg.of [] ?_ (by rw [List.append_nil]) (by simp) (by (simp [scL, V.sc]) <;> omega) u3.sc
        conv => whnf
        exact ⟨rfl, rfl, rfl, rfl, wrapKL (by omega), rfl⟩
      · by_cases c2 : k = x.2.2.1
        · subst c2
          (conv => whnf); repeat (first | (refine br_d (by omega) ?_; conv => whnf) | (refine br_nd (by omega) ?_; conv => whnf) | (refine br_eq (by omega) ?_; conv => whnf) | (refine br_neq (by omega) ?_; conv => whnf) | (refine br_ne (by omega) ?_; conv => whnf) | (refine br_no (bo_eqn (by omega)) ?_; conv => whnf) | (refine setB_app ?_; conv => whnf) | (refine setB_app0 ?_; conv => whnf) | (rw [getB_app]; conv => whnf) | (rw [getB_app0]; conv => whnf) | (refine addB_f8 ?_; conv => whnf) | (refine addB_f7 ?_; conv => whnf) | (refine addB_f6 ?_; conv => whnf) | (refine addB_f5 ?_; conv => whnf) | (refine addB_f4 ?_; conv => whnf) | (refine addB_f3 ?_; conv => whnf) | (refine addB_f2 ?_; conv => whnf) | (refine addB_f1 ?_; conv => whnf) | (refine addB_f0 ?_; conv => whnf))
          refine Fg.of [] ?_ (by rw [List.append_nil]) (by simp) (by (simp [scL, V.sc]) <;> omega) u3.sc
          conv => whnf
          exact ⟨rfl, rfl, rfl, rfl, wrapKL (by omega), rfl⟩
        · have e := tO k c1 c2
          (conv => whnf); repeat (first | (refine hsk k hk _ ?_; conv => whnf) | (refine SlI.at w3 (i := k) hk rfl ?_; conv => whnf) | (refine br_no (bo_eqn e) ?_; conv => whnf) | (refine br_d (by omega) ?_; conv => whnf) | (refine br_nd (by omega) ?_; conv => whnf) | (refine br_eq (by omega) ?_; conv => whnf) | (refine br_neq (by omega) ?_; conv => whnf) | (refine br_ne (by omega) ?_; conv => whnf) | (refine br_no (bo_eqn (by omega)) ?_; conv => whnf) | (refine setB_app ?_; conv => whnf) | (refine setB_app0 ?_; conv => whnf) | (rw [getB_app]; conv => whnf) | (rw [getB_app0]; conv => whnf) | (refine addB_f8 ?_; conv => whnf) | (refine addB_f7 ?_; conv => whnf) | (refine addB_f6 ?_; conv => whnf) | (refine addB_f5 ?_; conv => whnf) | (refine addB_f4 ?_; conv => whnf) | (refine addB_f3 ?_; conv => whnf) | (refine addB_f2 ?_; conv => whnf) | (refine addB_f1 ?_; conv => whnf) | (refine addB_f0 ?_; conv => whnf))
          refine Fg.of [] ?_ (by rw [List.append_nil]) (by simp) (by (simp [scL, V.sc]) <;> omega) u3.sc
          conv => whnf
          exact ⟨rfl, rfl, rfl, rfl, wrapKL (by omega), rfl⟩
    · (conv => whnf); repeat (first | (refine br_d (by omega) ?_; conv => whnf) | (refine br_nd (by omega) ?_; conv => whnf) | (refine br_eq (by omega) ?_; conv => whnf) | (refine br_neq (by omega) ?_; conv => whnf) | (refine br_ne (by omega) ?_; conv => whnf) | (refine br_no (bo_eqn (by omega)) ?_; conv => whnf) | (refine setB_app ?_; conv => whnf) | (refine setB_app0 ?_; conv => whnf) | (rw [getB_app]; conv => whnf) | (rw [getB_app0]; conv => whnf) | (refine addB_f8 ?_; conv => whnf) | (refine addB_f7 ?_; conv => whnf) | (refine addB_f6 ?_; conv => whnf) | (refine addB_f5 ?_; conv => whnf) | (refine addB_f4 ?_; conv => whnf) | (refine addB_f3 ?_; conv => whnf) | (refine addB_f2 ?_; conv => whnf) | (refine addB_f1 ?_; conv => whnf) | (refine addB_f0 ?_; conv => whnf))
      exact ⟨rfl, by simpa using uall.app []⟩
  · have e1 : IntKind.i64.wrap (9223372036854775807 - q) = 9223372036854775807 - q := by rw [wrap_id (by omega) (by omega)]
    have e2 : w.getD x.1 0 - q = IntKind.i64.wrap (w.getD x.1 0 - q) := by rw [wrap_id (by omega) (by omega)]
    have e3 : w.getD x.2.2.1 0 + q = IntKind.i64.wrap (w.getD x.2.2.1 0 + q) := by rw [wrap_id (by omega) (by omega)]
    (conv => whnf); repeat (first | (refine SlI.at f1 (i := 0) (by omega) rfl ?_; conv => whnf) | (refine ⟨_, _, gedges_ok hN, ?_⟩; conv => whnf) | (refine ⟨_, gedges_ok hN, ?_⟩; conv => whnf) | (rw [hKw]; conv => whnf) | (rw [hrw]; conv => whnf) | (refine ⟨_, _, edge_ok hN r x hx, ?_⟩; conv => whnf) | (refine ⟨_, edge_ok hN r x hx, ?_⟩; conv => whnf) | (refine SlI.at (f1.app _) (i := 1) (by omega) rfl ?_; conv => whnf) | (rw [hqq]; conv => whnf) | (refine ⟨_, _, gedges_ok (hN.more _), ?_⟩; conv => whnf) | (refine ⟨_, gedges_ok (hN.more _), ?_⟩; conv => whnf) | (refine ⟨_, _, hone, ?_⟩; conv => whnf) | (refine ⟨_, hone, ?_⟩; conv => whnf) | (refine ⟨_, _, hmv, ?_⟩; conv => whnf) | (refine ⟨_, hmv, ?_⟩; conv => whnf) | (rw [hbox3]; conv => whnf) | (refine SlI.at w3 (i := x.2.2.1) hR rfl ?_; conv => whnf) | (refine SlI.at w3 (i := x.1) hL rfl ?_; conv => whnf) | (rw [e1]; conv => whnf) | (refine skL _ ?_; conv => whnf) | (refine skR _ ?_; conv => whnf) | (refine br_no (bo_eqn e2) ?_; conv => whnf) | (refine br_no (bo_eqn e3) ?_; conv => whnf) | (refine br_d (by omega) ?_; conv => whnf) | (refine br_nd (by omega) ?_; conv => whnf) | (refine br_eq (by omega) ?_; conv => whnf) | (refine br_neq (by omega) ?_; conv => whnf) | (refine br_ne (by omega) ?_; conv => whnf) | (refine br_no (bo_eqn (by omega)) ?_; conv => whnf) | (refine setB_app ?_; conv => whnf) | (refine setB_app0 ?_; conv => whnf) | (rw [getB_app]; conv => whnf) | (rw [getB_app0]; conv => whnf) | (refine addB_f8 ?_; conv => whnf) | (refine addB_f7 ?_; conv => whnf) | (refine addB_f6 ?_; conv => whnf) | (refine addB_f5 ?_; conv => whnf) | (refine addB_f4 ?_; conv => whnf) | (refine addB_f3 ?_; conv => whnf) | (refine addB_f2 ?_; conv => whnf) | (refine addB_f1 ?_; conv => whnf) | (refine addB_f0 ?_; conv => whnf))
    refine loop_to (fun k => [.any, .sl j1 o1 w.length, .any, .any, .any, .any, .any, .any, .any, .any, .any, .any, .any, .any, .sl (M2.length + 1) 0 w.length, I x.1, I x.2.2.1, I k, .any, .any, .any, .any, .any, .any, .any, .any, .any, .any, .any, .any, .any, .any, .any, .any, .any, .any, .any, .any, .any, .any, .any, .any, .any, .any, .any, .any, .any, .any, .any, .any, .any, .any, .any, .any, .any, .any, .any, .any, .any, .any, .any, .any, .any, .any, .any, .any, .any, .any, .any, .any, .any, .any, .any, .any, .any, .any, .any, .any, .any, .any, .any, .any, .any, .any, .any, .any, .any, .any, .any, .any, .any, .any, .any, .any, .any, .any, .any, .any, .any, .any, .any, .any, .any, .any, .any, .any, .any, .any, .any, .any, .any, .any, .any, .any, .any, .any, .any, .any, .any, .any, .any, .any, .any, .any, .any, .any, .any, .any, .any, .any, .any, .any, .any, .any, .any, .any, .any, .any, .any, .any, .any, .any, .any, .any, .any, .any, .any, .any, .any, .any, .any, .any, .any, .any, .any, .any, .any, .any, .any, .any, .any, .any, .any, .any, .any, .any, .any]) (fun _ => M3) 0 w.length (Nat.zero_le _) ?_ ?_ ?_
    · refine Fg.of [] ?_ (by rw [List.append_nil]) (by simp) (by (simp [scL, V.sc]) <;> omega) u3.sc
      conv => whnf
      exact ⟨rfl, rfl, rfl, rfl, rfl, rfl⟩
    · intro k _ hk
      by_cases c1 : k = x.1
      · subst c1
        (conv => whnf); repeat (first | (refine br_d (by omega) ?_; conv => whnf) | (refine br_nd (by omega) ?_; conv => whnf) | (refine br_eq (by omega) ?_; conv => whnf) | (refine br_neq (by omega) ?_; conv => whnf) | (refine br_ne (by omega) ?_; conv => whnf) | (refine br_no (bo_eqn (by omega)) ?_; conv => whnf) | (refine setB_app ?_; conv => whnf) | (refine setB_app0 ?_; conv => whnf) | (rw [getB_app]; conv => whnf) | (rw [getB_app0]; conv => whnf) | (refine addB_f8 ?_; conv => whnf) | (refine addB_f7 ?_; conv => whnf) | (refine addB_f6 ?_; conv => whnf) | (refine addB_f5 ?_; conv => whnf) | (refine addB_f4 ?_; conv => whnf) | (refine addB_f3 ?_; conv => whnf) | (refine addB_f2 ?_; conv => whnf) | (refine addB_f1 ?_; conv => whnf) | (refine addB_f0 ?_; conv => whnf))
        refine Fg.of [] ?_ (by rw [List.append_nil]) (by simp) (by (simp [scL, V.sc]) <;> omega) u3.sc
        conv => whnf
        exact ⟨rfl, rfl, rfl, rfl, wrapKL (by omega), rfl⟩
      · by_cases c2 : k = x.2.2.1
        · subst c2
          (conv => whnf); repeat (first | (refine br_d (by omega) ?_; conv => whnf) | (refine br_nd (by omega) ?_; conv => whnf) | (refine br_eq (by omega) ?_; conv => whnf) | (refine br_neq (by omega) ?_; conv => whnf) | (refine br_ne (by omega) ?_; conv => whnf) | (refine br_no (bo_eqn (by omega)) ?_; conv => whnf) | (refine setB_app ?_; conv => whnf) | (refine setB_app0 ?_; conv => whnf) | (rw [getB_app]; conv => whnf) | (rw [getB_app0]; conv => whnf) | (refine addB_f8 ?_; conv => whnf) | (refine addB_f7 ?_; conv => whnf) | (refine addB_f6 ?_; conv => whnf) | (refine addB_f5 ?_; conv => whnf) | (refine addB_f4 ?_; conv => whnf) | (refine addB_f3 ?_; conv => whnf) | (refine addB_f2 ?_; conv => whnf) | (refine addB_f1 ?_; conv => whnf) | (refine addB_f0 ?_; conv => whnf))
          refine Fg.of [] ?_ (by rw [List.append_nil]) (by simp) (by (simp [scL, V.sc]) <;> omega) u3.sc
          conv => whnf
          exact ⟨rfl, rfl, rfl, rfl, wrapKL (by omega), rfl⟩
        · have e := tO k c1 c2
          (conv => whnf); repeat (first | (refine hsk k hk _ ?_; conv => whnf) | (refine SlI.at w3 (i := k) hk rfl ?_; conv => whnf) | (refine br_no (bo_eqn e) ?_; conv => whnf) | (refine br_d (by omega) ?_; conv => whnf) | (refine br_nd (by omega) ?_; conv => whnf) | (refine br_eq (by omega) ?_; conv => whnf) | (refine br_neq (by omega) ?_; conv => whnf) | (refine br_ne (by omega) ?_; conv => whnf) | (refine br_no (bo_eqn (by omega)) ?_; conv => whnf) | (refine setB_app ?_; conv => whnf) | (refine setB_app0 ?_; conv => whnf) | (rw [getB_app]; conv => whnf) | (rw [getB_app0]; conv => whnf) | (refine addB_f8 ?_; conv => whnf) | (refine addB_f7 ?_; conv => whnf) | (refine addB_f6 ?_; conv => whnf) | (refine addB_f5 ?_; conv => whnf) | (refine addB_f4 ?_; conv => whnf) | (refine addB_f3 ?_; conv => whnf) | (refine addB_f2 ?_; conv => whnf) | (refine addB_f1 ?_; conv => whnf) | (refine addB_f0 ?_; conv => whnf))
          refine Fg.of [] ?_ (by rw [List.append_nil]) (by simp) (by (simp [scL, V.sc]) <;> omega) u3.sc
          conv => whnf
          exact ⟨rfl, rfl, rfl, rfl, wrapKL (by omega), rfl⟩
    · (conv => whnf); repeat (first | (refine br_d (by omega) ?_; conv => whnf) | (refine br_nd (by omega) ?_; conv => whnf) | (refine br_eq (by omega) ?_; conv => whnf) | (refine br_neq (by omega) ?_; conv => whnf) | (refine br_ne (by omega) ?_; conv => whnf) | (refine br_no (bo_eqn (by omega)) ?_; conv => whnf) | (refine setB_app ?_; conv => whnf) | (refine setB_app0 ?_; conv => whnf) | (rw [getB_app]; conv => whnf) | (rw [getB_app0]; conv => whnf) | (refine addB_f8 ?_; conv => whnf) | (refine addB_f7 ?_; conv => whnf) | (refine addB_f6 ?_; conv => whnf) | (refine addB_f5 ?_; conv => whnf) | (refine addB_f4 ?_; conv => whnf) | (refine addB_f3 ?_; conv => whnf) | (refine addB_f2 ?_; conv => whnf) | (refine addB_f1 ?_; conv => whnf) | (refine addB_f0 ?_; conv => whnf))
      exact ⟨rfl, by simpa using uall.app []⟩
end Go.Proofs.YtjpkfdhfofaehaaDoor
