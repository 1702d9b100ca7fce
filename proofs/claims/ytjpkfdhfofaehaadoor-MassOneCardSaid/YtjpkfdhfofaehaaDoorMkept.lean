/- MassKept: its contract; what flows add up to. No condition. -/
import Derived.Test.YtjpkfdhfofaehaaDoorMv
namespace Go.Proofs.YtjpkfdhfofaehaaDoor
open Go Go.Eng
set_option maxRecDepth 100000
set_option linter.unusedSimpArgs false
set_option linter.unusedVariables false

/-- Sums over cells. -/
def sR (G : Nat → Int) : Nat → Int
  | 0 => 0
  | k + 1 => sR G k + G k
theorem sR_congr {F G : Nat → Int} : ∀ k, (∀ i, i < k → F i = G i) → sR F k = sR G k
  | 0, _ => rfl
  | k + 1, h => by simp only [sR, sR_congr k (fun i hi => h i (by omega)), h k (by omega)]
theorem sR_add (F G : Nat → Int) : ∀ k, sR (fun c => F c + G c) k = sR F k + sR G k
  | 0 => rfl
  | k + 1 => by simp only [sR, sR_add F G k]; omega
theorem sR_zero : ∀ k, sR (fun _ => 0) k = 0
  | 0 => rfl
  | k + 1 => by simp only [sR, sR_zero k]; rfl
theorem sR_if {a : Nat} {v : Int} : ∀ k, sR (fun c => if a = c then v else 0) k = if a < k then v else 0
  | 0 => rfl
  | k + 1 => by
    simp only [sR, sR_if k]
    by_cases h : a < k
    · rw [if_pos h, if_neg (by omega), if_pos (by omega)]; omega
    · rw [if_neg h]
      by_cases h2 : a = k
      · rw [if_pos h2, if_pos (by omega)]; omega
      · rw [if_neg h2, if_neg (by omega)]; rfl
theorem ps_sR (l : List Int) : ∀ k, ps l k = sR (fun i => l.getD i 0) k
  | 0 => rfl
  | k + 1 => by simp only [ps, sR, ps_sR l k]
theorem dl_sum {n : Nat} (hn : 1 ≤ n) (f : Nat → Int) : ∀ k, sR (dl n f k) (6 * (n * n)) = 0
  | 0 => sR_zero _
  | k + 1 => by
    cases hx : (edges n)[k]? with
    | none =>
      have : dl n f (k + 1) = dl n f k := by funext c; simp only [dl, hx]
      rw [this, dl_sum hn f k]
    | some x =>
      obtain ⟨q1, _, _, q4, _⟩ := edge_of hn hx
      have : dl n f (k + 1) = fun c => dl n f k c + ((if x.1 = c then -f k else 0) + if x.2.2.1 = c then f k else 0) := by funext c; rw [dl_step hx]
      rw [this, sR_add, sR_add, dl_sum hn f k, sR_if, sR_if, if_pos q1, if_pos q4]
      omega
theorem dl_neg {n : Nat} (f : Nat → Int) (c : Nat) : ∀ k, dl n (fun i => -f i) k c = -dl n f k c
  | 0 => rfl
  | k + 1 => by
    simp only [dl, dl_neg f c k]
    split
    · split <;> split <;> omega
    · rfl
theorem dl_congr {n : Nat} {f g : Nat → Int} (c : Nat) : ∀ k, (∀ i, i < k → f i = g i) → dl n f k c = dl n g k c
  | 0, _ => rfl
  | k + 1, h => by
    simp only [dl, dl_congr c k (fun i hi => h i (by omega)), h k (by omega)]
theorem dl_add {n : Nat} (f g : Nat → Int) (c : Nat) : ∀ k, dl n (fun i => f i + g i) k c = dl n f k c + dl n g k c
  | 0 => rfl
  | k + 1 => by
    simp only [dl, dl_add f g c k]
    split
    · split <;> split <;> omega
    · rfl
theorem kept_sum {n : Nat} (hn : 1 ≤ n) {w f : List Int} (hw : w.length = 6 * (n * n)) : ps (tab w.length (tot n w f)) w.length = ps w w.length := by
  rw [ps_sR, ps_sR]
  have h1 : sR (fun i => (tab w.length (tot n w f)).getD i 0) w.length = sR (fun c => w.getD c 0 + dl n (fL f) f.length c) w.length := sR_congr _ fun i hi => by rw [tab_get hi]; rfl
  rw [h1, sR_add, hw, dl_sum hn]
  omega
/-- The opposite flows bring back what there was. -/
theorem back_tot {n : Nat} {w f : List Int} {c : Nat} (hc : c < w.length) : tot n (tab w.length (tot n w f)) (tab f.length fun i => -f.getD i 0) c = w.getD c 0 := by
  unfold tot
  rw [tab_get hc, tab_len]
  have h : dl n (fL (tab f.length fun i => -f.getD i 0)) f.length c = -dl n (fL f) f.length c := by
    rw [← dl_neg]
    exact dl_congr c _ fun i hi => by unfold fL; rw [tab_get hi]
  show w.getD c 0 + dl n (fL f) f.length c + _ = _
  rw [h]; omega
/-- None of the first k is below nought. -/
def gd (w : List Int) : Nat → Bool
  | 0 => true
  | k + 1 => gd w k && decide (w.getD k 0 ≥ 0)
theorem gd_true {w : List Int} : ∀ {k}, gd w k = true → ∀ i, i < k → 0 ≤ w.getD i 0
  | 0, _, i, hi => absurd hi (Nat.not_lt_zero i)
  | k + 1, h, i, hi => by
    simp only [gd, Bool.and_eq_true, decide_eq_true_eq] at h
    rcases Nat.lt_or_ge i k with h' | h'
    · exact gd_true h.1 i h'
    · obtain rfl : i = k := by omega
      exact h.2
theorem Sli.sl {M : List Blk} {v : V} {l : List Int} (h : Sli M v l) (hl : 0 < l.length) : ∃ j o, v = .sl j o l.length ∧ SlI M j o l := by
  rcases h with ⟨_, rfl⟩ | h
  · exact absurd hl (Nat.lt_irrefl 0)
  · exact h
set_option maxHeartbeats 0 in
theorem kept15_ok {M : List Blk} (hm : Top M) (hsc : scM M.length M = true) (side : Int) {v1 v2 : V} {w f : List Int} (h1 : Sli M v1 w) (h2 : Sli M v2 f) : COk Tryd.prog 3 5 [I side, v1, v2] M (Bo true) M := by
  by_cases hside : 1 ≤ side ∧ side ≤ 32
  case neg =>
    have hno := new_no side hside M
    rcases h1 with ⟨rfl, rfl⟩ | ⟨j1, o1, rfl, h1⟩ <;> rcases h2 with ⟨rfl, rfl⟩ | ⟨j2, o2, rfl, h2⟩
    all_goals
      refine COk_quiet Tryd.f5 Tryd.func5 (by kernel_rfl) rfl ?_
      (conv => whnf); repeat (first | (refine ⟨_, _, awake15_ok hm hsc, ?_⟩; conv => whnf) | (refine ⟨_, awake15_ok hm hsc, ?_⟩; conv => whnf) | (refine ⟨_, _, hno, ?_⟩; conv => whnf) | (refine ⟨_, hno, ?_⟩; conv => whnf) | (refine br_d (by omega) ?_; conv => whnf) | (refine br_nd (by omega) ?_; conv => whnf) | (refine br_eq (by omega) ?_; conv => whnf) | (refine br_neq (by omega) ?_; conv => whnf) | (refine br_ne (by omega) ?_; conv => whnf) | (refine br_no (bo_eqn (by omega)) ?_; conv => whnf) | (refine setB_app ?_; conv => whnf) | (refine setB_app0 ?_; conv => whnf) | (rw [getB_app]; conv => whnf) | (rw [getB_app0]; conv => whnf) | (refine addB_f8 ?_; conv => whnf) | (refine addB_f7 ?_; conv => whnf) | (refine addB_f6 ?_; conv => whnf) | (refine addB_f5 ?_; conv => whnf) | (refine addB_f4 ?_; conv => whnf) | (refine addB_f3 ?_; conv => whnf) | (refine addB_f2 ?_; conv => whnf) | (refine addB_f1 ?_; conv => whnf) | (refine addB_f0 ?_; conv => whnf))
      exact ⟨rfl, [], by simp⟩
  obtain ⟨n, rfl⟩ : ∃ n : Nat, side = n := ⟨side.toNat, by omega⟩
  have hn : 1 ≤ n := by omega
  have hn' : n ≤ 32 := by omega
  have hnn : 1 ≤ n * n ∧ n * n ≤ 1024 := ⟨Nat.mul_pos hn hn, Nat.mul_le_mul hn' hn'⟩
  have hel := edges_len hn
  obtain ⟨b, M1, hnew, hN, u1⟩ := new_up hm hsc n hn hn'
  have hng := (hm.up u1).ng
  by_cases hsz : w.length = 6 * (n * n) ∧ f.length = (edges n).length
  case neg =>
    have hmv := move_arg hN (h1.up u1) (h2.up u1) (by omega)
    by_cases hw : w.length = 6 * (n * n)
    · have hf : f.length ≠ (edges n).length := fun e => hsz ⟨hw, e⟩
      rcases h1 with ⟨rfl, rfl⟩ | ⟨j1, o1, rfl, h1⟩ <;> rcases h2 with ⟨rfl, rfl⟩ | ⟨j2, o2, rfl, h2⟩
      all_goals
        (try rw [List.length_nil] at hw)
        (try rw [List.length_nil] at hf)
        refine COk_quiet Tryd.f5 Tryd.func5 (by kernel_rfl) rfl ?_
        (conv => whnf); repeat (first | (refine ⟨_, _, awake15_ok hm hsc, ?_⟩; conv => whnf) | (refine ⟨_, awake15_ok hm hsc, ?_⟩; conv => whnf) | (refine ⟨_, _, hnew, ?_⟩; conv => whnf) | (refine ⟨_, hnew, ?_⟩; conv => whnf) | (refine ⟨_, _, hmv, ?_⟩; conv => whnf) | (refine ⟨_, hmv, ?_⟩; conv => whnf) | (refine ⟨_, _, gcells_ok hN, ?_⟩; conv => whnf) | (refine ⟨_, gcells_ok hN, ?_⟩; conv => whnf) | (refine ⟨_, _, gedges_ok hN, ?_⟩; conv => whnf) | (refine ⟨_, gedges_ok hN, ?_⟩; conv => whnf) | (refine br_yes (by first | (simp; done) | (simp; omega)) ?_; conv => whnf) | (refine br_d (by omega) ?_; conv => whnf) | (refine br_nd (by omega) ?_; conv => whnf) | (refine br_eq (by omega) ?_; conv => whnf) | (refine br_neq (by omega) ?_; conv => whnf) | (refine br_ne (by omega) ?_; conv => whnf) | (refine br_no (bo_eqn (by omega)) ?_; conv => whnf) | (refine setB_app ?_; conv => whnf) | (refine setB_app0 ?_; conv => whnf) | (rw [getB_app]; conv => whnf) | (rw [getB_app0]; conv => whnf) | (refine addB_f8 ?_; conv => whnf) | (refine addB_f7 ?_; conv => whnf) | (refine addB_f6 ?_; conv => whnf) | (refine addB_f5 ?_; conv => whnf) | (refine addB_f4 ?_; conv => whnf) | (refine addB_f3 ?_; conv => whnf) | (refine addB_f2 ?_; conv => whnf) | (refine addB_f1 ?_; conv => whnf) | (refine addB_f0 ?_; conv => whnf))
        exact ⟨by first | rfl | (congr 1; simp; omega), by simpa using u1.app []⟩
    · rcases h1 with ⟨rfl, rfl⟩ | ⟨j1, o1, rfl, h1⟩ <;> rcases h2 with ⟨rfl, rfl⟩ | ⟨j2, o2, rfl, h2⟩
      all_goals
        (try rw [List.length_nil] at hw)
        refine COk_quiet Tryd.f5 Tryd.func5 (by kernel_rfl) rfl ?_
        (conv => whnf); repeat (first | (refine ⟨_, _, awake15_ok hm hsc, ?_⟩; conv => whnf) | (refine ⟨_, awake15_ok hm hsc, ?_⟩; conv => whnf) | (refine ⟨_, _, hnew, ?_⟩; conv => whnf) | (refine ⟨_, hnew, ?_⟩; conv => whnf) | (refine ⟨_, _, hmv, ?_⟩; conv => whnf) | (refine ⟨_, hmv, ?_⟩; conv => whnf) | (refine ⟨_, _, gcells_ok hN, ?_⟩; conv => whnf) | (refine ⟨_, gcells_ok hN, ?_⟩; conv => whnf) | (refine ⟨_, _, gedges_ok hN, ?_⟩; conv => whnf) | (refine ⟨_, gedges_ok hN, ?_⟩; conv => whnf) | (refine br_yes (by first | (simp; done) | (simp; omega)) ?_; conv => whnf) | (refine br_d (by omega) ?_; conv => whnf) | (refine br_nd (by omega) ?_; conv => whnf) | (refine br_eq (by omega) ?_; conv => whnf) | (refine br_neq (by omega) ?_; conv => whnf) | (refine br_ne (by omega) ?_; conv => whnf) | (refine br_no (bo_eqn (by omega)) ?_; conv => whnf) | (refine setB_app ?_; conv => whnf) | (refine setB_app0 ?_; conv => whnf) | (rw [getB_app]; conv => whnf) | (rw [getB_app0]; conv => whnf) | (refine addB_f8 ?_; conv => whnf) | (refine addB_f7 ?_; conv => whnf) | (refine addB_f6 ?_; conv => whnf) | (refine addB_f5 ?_; conv => whnf) | (refine addB_f4 ?_; conv => whnf) | (refine addB_f3 ?_; conv => whnf) | (refine addB_f2 ?_; conv => whnf) | (refine addB_f1 ?_; conv => whnf) | (refine addB_f0 ?_; conv => whnf))
        exact ⟨by first | rfl | (congr 1; simp; omega), by simpa using u1.app []⟩
  obtain ⟨hw, hf⟩ := hsz
  obtain ⟨j1, o1, rfl, h1'⟩ := h1.sl (by omega)
  obtain ⟨j2, o2, rfl, h2'⟩ := h2.sl (by omega)
  clear h1 h2
  have h1 := h1'
  have h2 := h2'
  clear h1' h2'
  have k1 := h1.up u1
  have k2 := h2.up u1
  by_cases hg : ∀ c, c < w.length → 0 ≤ tot n w f c ∧ tot n w f c < 9223372036854775808
  case neg =>
    obtain ⟨c0, hc0, hlo, hbad⟩ := first_bad hg
    have hmv := move_not hng u1.sc hN hn hn' k1 k2 hw hf hc0 hlo hbad
    refine COk_quiet Tryd.f5 Tryd.func5 (by kernel_rfl) rfl ?_
    (conv => whnf); repeat (first | (refine ⟨_, _, awake15_ok hm hsc, ?_⟩; conv => whnf) | (refine ⟨_, awake15_ok hm hsc, ?_⟩; conv => whnf) | (refine ⟨_, _, hnew, ?_⟩; conv => whnf) | (refine ⟨_, hnew, ?_⟩; conv => whnf) | (refine ⟨_, _, hmv, ?_⟩; conv => whnf) | (refine ⟨_, hmv, ?_⟩; conv => whnf) | (refine ⟨_, _, gcells_ok hN, ?_⟩; conv => whnf) | (refine ⟨_, gcells_ok hN, ?_⟩; conv => whnf) | (refine ⟨_, _, gedges_ok hN, ?_⟩; conv => whnf) | (refine ⟨_, gedges_ok hN, ?_⟩; conv => whnf) | (refine br_yes (by first | (simp; done) | (simp; omega)) ?_; conv => whnf) | (refine br_d (by omega) ?_; conv => whnf) | (refine br_nd (by omega) ?_; conv => whnf) | (refine br_eq (by omega) ?_; conv => whnf) | (refine br_neq (by omega) ?_; conv => whnf) | (refine br_ne (by omega) ?_; conv => whnf) | (refine br_no (bo_eqn (by omega)) ?_; conv => whnf) | (refine setB_app ?_; conv => whnf) | (refine setB_app0 ?_; conv => whnf) | (rw [getB_app]; conv => whnf) | (rw [getB_app0]; conv => whnf) | (refine addB_f8 ?_; conv => whnf) | (refine addB_f7 ?_; conv => whnf) | (refine addB_f6 ?_; conv => whnf) | (refine addB_f5 ?_; conv => whnf) | (refine addB_f4 ?_; conv => whnf) | (refine addB_f3 ?_; conv => whnf) | (refine addB_f2 ?_; conv => whnf) | (refine addB_f1 ?_; conv => whnf) | (refine addB_f0 ?_; conv => whnf))
    exact ⟨by first | rfl | (congr 1; simp; omega), by simpa using u1.app []⟩
  obtain ⟨M2, hmv, u2, s2⟩ := move_up hng u1.sc hN hn hn' k1 k2 hw hf hg
  have u12 := u1.trans u2
  have hng2 := (hm.up u12).ng
  have hj1 := (k1.up u2).lt
  have hj2 := (k2.up u2).lt
  have hb2 := (hN.up u2).lt
  have hM2 := u2.len
  have hs2 := s2.lt
  have hadd := added15_ok hng2 u2.sc (Sli.of (k1.up u2)) (by omega)
  have hadd2 := added15_ok hng2 u2.sc (Sli.of s2) (by rw [tab_len]; omega)
  rw [tab_len, kept_sum hn hw] at hadd2
  have hlen : (tab w.length (tot n w f)).length = w.length := tab_len _ _
  by_cases hopp : ∀ i, i < f.length → f.getD i 0 ≠ -9223372036854775808
  · obtain ⟨M3, hop, u3, s3⟩ := opp15_ok hng2 u2.sc (k2.up u2) (by omega) hopp
    have hng3 := (hm.up (u12.trans u3)).ng
    by_cases hgd : gd w w.length = true
    · have hge := gd_true hgd
      have hbk : ∀ c, c < w.length → 0 ≤ tot n (tab w.length (tot n w f)) (tab f.length fun i => -f.getD i 0) c ∧ tot n (tab w.length (tot n w f)) (tab f.length fun i => -f.getD i 0) c < 9223372036854775808 := by
        intro c hc
        rw [back_tot hc]
        exact ⟨hge c hc, (h1.wf c hc).2⟩
      obtain ⟨M4, hmv4, u4, s4⟩ := move_up hng3 u3.sc (hN.up (u2.trans u3)) hn hn' (s2.up u3) s3 (by rw [tab_len]; exact hw) (by rw [tab_len]; exact hf) (by rw [tab_len]; exact hbk)
      have hsame := same15_ok (hm.up ((u12.trans u3).trans u4)).ng u4.sc (Sli.of s4) (Sli.of (((k1.up u2).up u3).up u4))
      rw [tab_len, tab_len] at hmv4
      rw [tab_len, tab_len] at hsame
      rw [decide_eq_true (by
        rw [show tab w.length (tot n (tab w.length (tot n w f)) (tab f.length fun i => -f.getD i 0)) = tab w.length (fun c => w.getD c 0) from tab_congr fun c hc => back_tot hc]
        exact (tab_list w 0).symm)] at hsame
      refine COk_quiet Tryd.f5 Tryd.func5 (by kernel_rfl) rfl ?_
      (conv => whnf); repeat (first | (refine ⟨_, _, awake15_ok hm hsc, ?_⟩; conv => whnf) | (refine ⟨_, awake15_ok hm hsc, ?_⟩; conv => whnf) | (refine ⟨_, _, hnew, ?_⟩; conv => whnf) | (refine ⟨_, hnew, ?_⟩; conv => whnf) | (refine ⟨_, _, hmv, ?_⟩; conv => whnf) | (refine ⟨_, hmv, ?_⟩; conv => whnf) | (refine ⟨_, _, hadd, ?_⟩; conv => whnf) | (refine ⟨_, hadd, ?_⟩; conv => whnf) | (refine ⟨_, _, hadd2, ?_⟩; conv => whnf) | (refine ⟨_, hadd2, ?_⟩; conv => whnf) | (refine br_d (by omega) ?_; conv => whnf) | (refine br_nd (by omega) ?_; conv => whnf) | (refine br_eq (by omega) ?_; conv => whnf) | (refine br_neq (by omega) ?_; conv => whnf) | (refine br_ne (by omega) ?_; conv => whnf) | (refine br_no (bo_eqn (by omega)) ?_; conv => whnf) | (refine setB_app ?_; conv => whnf) | (refine setB_app0 ?_; conv => whnf) | (rw [getB_app]; conv => whnf) | (rw [getB_app0]; conv => whnf) | (refine addB_f8 ?_; conv => whnf) | (refine addB_f7 ?_; conv => whnf) | (refine addB_f6 ?_; conv => whnf) | (refine addB_f5 ?_; conv => whnf) | (refine addB_f4 ?_; conv => whnf) | (refine addB_f3 ?_; conv => whnf) | (refine addB_f2 ?_; conv => whnf) | (refine addB_f1 ?_; conv => whnf) | (refine addB_f0 ?_; conv => whnf))
      refine loop_to (fun k => [.any, .sl j1 o1 w.length, .sl j2 o2 f.length, .any, .any, .any, .any, .ptr (b + 1) 0, .any, .sl (M1.length + 1) 0 w.length, .any, .any, .any, .any, Bo (gd w k), I k, .any, .any, .any, .any, .any, .any, .any, .any, .any, .any, .any, .any, .any, .any, .any, .any, .any, .any, .any, .any, .any, .any, .any, .any, .any, .any, .any, .any, .any, .any, .any, .any, .any, .any, .any, .any, .any, .any, .any, .any, .any, .any, .any, .any, .any, .any, .any, .any, .any, .any, .any, .any, .any, .any, .any, .any, .any, .any, .any, .any, .any, .any, .any, .any, .any, .any, .any, .any, .any, .any, .any, .any, .any, .any, .any, .any, .any, .any, .any, .any, .any, .any, .any, .any, .any, .any, .any, .any, .any, .any, .any, .any, .any, .any, .any, .any, .any, .any, .any, .any, .any, .any, .any, .any, .any, .any, .any, .any, .any, .any, .any, .any, .any, .any, .any, .any, .any, .any]) (fun _ => M2) 0 w.length (Nat.zero_le _) ?_ ?_ ?_
      · refine Fg.of [] ?_ (by rw [List.append_nil]) (by simp) (by (simp [scL, V.sc]) <;> omega) u2.sc
        conv => whnf
        exact ⟨rfl, rfl, rfl, rfl, rfl, rfl, rfl⟩
      · intro k _ hk
        have hgk := hg k hk
        have hsk : ∀ K : V → Prop, K (.int .i64 (tot n w f k)) → rd1 (getB M2 (M1.length + 1)).b (0 + k * 1) K := fun K hK => SlI.at s2 (i := k) (by rw [tab_len]; exact hk) rfl (by rw [tab_get hk]; exact hK)
        (conv => whnf); repeat (first | (refine hsk _ ?_; conv => whnf) | (refine br_d (by omega) ?_; conv => whnf) | (refine br_nd (by omega) ?_; conv => whnf) | (refine br_eq (by omega) ?_; conv => whnf) | (refine br_neq (by omega) ?_; conv => whnf) | (refine br_ne (by omega) ?_; conv => whnf) | (refine br_no (bo_eqn (by omega)) ?_; conv => whnf) | (refine setB_app ?_; conv => whnf) | (refine setB_app0 ?_; conv => whnf) | (rw [getB_app]; conv => whnf) | (rw [getB_app0]; conv => whnf) | (refine addB_f8 ?_; conv => whnf) | (refine addB_f7 ?_; conv => whnf) | (refine addB_f6 ?_; conv => whnf) | (refine addB_f5 ?_; conv => whnf) | (refine addB_f4 ?_; conv => whnf) | (refine addB_f3 ?_; conv => whnf) | (refine addB_f2 ?_; conv => whnf) | (refine addB_f1 ?_; conv => whnf) | (refine addB_f0 ?_; conv => whnf))
        have hgs : gd w (k + 1) = (gd w k && decide (w.getD k 0 ≥ 0)) := rfl
        cases hgk2 : gd w k
        · (conv => whnf); repeat (first | (refine br_d (by omega) ?_; conv => whnf) | (refine br_nd (by omega) ?_; conv => whnf) | (refine br_eq (by omega) ?_; conv => whnf) | (refine br_neq (by omega) ?_; conv => whnf) | (refine br_ne (by omega) ?_; conv => whnf) | (refine br_no (bo_eqn (by omega)) ?_; conv => whnf) | (refine setB_app ?_; conv => whnf) | (refine setB_app0 ?_; conv => whnf) | (rw [getB_app]; conv => whnf) | (rw [getB_app0]; conv => whnf) | (refine addB_f8 ?_; conv => whnf) | (refine addB_f7 ?_; conv => whnf) | (refine addB_f6 ?_; conv => whnf) | (refine addB_f5 ?_; conv => whnf) | (refine addB_f4 ?_; conv => whnf) | (refine addB_f3 ?_; conv => whnf) | (refine addB_f2 ?_; conv => whnf) | (refine addB_f1 ?_; conv => whnf) | (refine addB_f0 ?_; conv => whnf))
          refine Fg.of [] ?_ (by rw [List.append_nil]) (by simp) (by (simp [scL, V.sc]) <;> omega) u2.sc
          conv => whnf
          exact ⟨rfl, rfl, rfl, rfl, by rw [hgs, hgk2]; rfl, wrapKL (by omega), rfl⟩
        · (conv => whnf); repeat (first | (refine SlI.at (k1.up u2) (i := k) hk rfl ?_; conv => whnf) | (refine br_d (by omega) ?_; conv => whnf) | (refine br_nd (by omega) ?_; conv => whnf) | (refine br_eq (by omega) ?_; conv => whnf) | (refine br_neq (by omega) ?_; conv => whnf) | (refine br_ne (by omega) ?_; conv => whnf) | (refine br_no (bo_eqn (by omega)) ?_; conv => whnf) | (refine setB_app ?_; conv => whnf) | (refine setB_app0 ?_; conv => whnf) | (rw [getB_app]; conv => whnf) | (rw [getB_app0]; conv => whnf) | (refine addB_f8 ?_; conv => whnf) | (refine addB_f7 ?_; conv => whnf) | (refine addB_f6 ?_; conv => whnf) | (refine addB_f5 ?_; conv => whnf) | (refine addB_f4 ?_; conv => whnf) | (refine addB_f3 ?_; conv => whnf) | (refine addB_f2 ?_; conv => whnf) | (refine addB_f1 ?_; conv => whnf) | (refine addB_f0 ?_; conv => whnf))
          refine Fg.of [] ?_ (by rw [List.append_nil]) (by simp) (by (simp [scL, V.sc]) <;> omega) u2.sc
          conv => whnf
          exact ⟨rfl, rfl, rfl, rfl, by rw [hgs, hgk2]; rfl, wrapKL (by omega), rfl⟩
      · rw [hgd]
        (conv => whnf); repeat (first | (refine ⟨_, _, hop, ?_⟩; conv => whnf) | (refine ⟨_, hop, ?_⟩; conv => whnf) | (refine ⟨_, _, hmv4, ?_⟩; conv => whnf) | (refine ⟨_, hmv4, ?_⟩; conv => whnf) | (refine ⟨_, _, hsame, ?_⟩; conv => whnf) | (refine ⟨_, hsame, ?_⟩; conv => whnf) | (refine br_d (by omega) ?_; conv => whnf) | (refine br_nd (by omega) ?_; conv => whnf) | (refine br_eq (by omega) ?_; conv => whnf) | (refine br_neq (by omega) ?_; conv => whnf) | (refine br_ne (by omega) ?_; conv => whnf) | (refine br_no (bo_eqn (by omega)) ?_; conv => whnf) | (refine setB_app ?_; conv => whnf) | (refine setB_app0 ?_; conv => whnf) | (rw [getB_app]; conv => whnf) | (rw [getB_app0]; conv => whnf) | (refine addB_f8 ?_; conv => whnf) | (refine addB_f7 ?_; conv => whnf) | (refine addB_f6 ?_; conv => whnf) | (refine addB_f5 ?_; conv => whnf) | (refine addB_f4 ?_; conv => whnf) | (refine addB_f3 ?_; conv => whnf) | (refine addB_f2 ?_; conv => whnf) | (refine addB_f1 ?_; conv => whnf) | (refine addB_f0 ?_; conv => whnf))
        exact ⟨rfl, by simpa using ((u12.trans u3).trans u4).app []⟩
    · have hgd : gd w w.length = false := by simpa using hgd
      refine COk_quiet Tryd.f5 Tryd.func5 (by kernel_rfl) rfl ?_
      (conv => whnf); repeat (first | (refine ⟨_, _, awake15_ok hm hsc, ?_⟩; conv => whnf) | (refine ⟨_, awake15_ok hm hsc, ?_⟩; conv => whnf) | (refine ⟨_, _, hnew, ?_⟩; conv => whnf) | (refine ⟨_, hnew, ?_⟩; conv => whnf) | (refine ⟨_, _, hmv, ?_⟩; conv => whnf) | (refine ⟨_, hmv, ?_⟩; conv => whnf) | (refine ⟨_, _, hadd, ?_⟩; conv => whnf) | (refine ⟨_, hadd, ?_⟩; conv => whnf) | (refine ⟨_, _, hadd2, ?_⟩; conv => whnf) | (refine ⟨_, hadd2, ?_⟩; conv => whnf) | (refine br_d (by omega) ?_; conv => whnf) | (refine br_nd (by omega) ?_; conv => whnf) | (refine br_eq (by omega) ?_; conv => whnf) | (refine br_neq (by omega) ?_; conv => whnf) | (refine br_ne (by omega) ?_; conv => whnf) | (refine br_no (bo_eqn (by omega)) ?_; conv => whnf) | (refine setB_app ?_; conv => whnf) | (refine setB_app0 ?_; conv => whnf) | (rw [getB_app]; conv => whnf) | (rw [getB_app0]; conv => whnf) | (refine addB_f8 ?_; conv => whnf) | (refine addB_f7 ?_; conv => whnf) | (refine addB_f6 ?_; conv => whnf) | (refine addB_f5 ?_; conv => whnf) | (refine addB_f4 ?_; conv => whnf) | (refine addB_f3 ?_; conv => whnf) | (refine addB_f2 ?_; conv => whnf) | (refine addB_f1 ?_; conv => whnf) | (refine addB_f0 ?_; conv => whnf))
      refine loop_to (fun k => [.any, .sl j1 o1 w.length, .sl j2 o2 f.length, .any, .any, .any, .any, .ptr (b + 1) 0, .any, .sl (M1.length + 1) 0 w.length, .any, .any, .any, .any, Bo (gd w k), I k, .any, .any, .any, .any, .any, .any, .any, .any, .any, .any, .any, .any, .any, .any, .any, .any, .any, .any, .any, .any, .any, .any, .any, .any, .any, .any, .any, .any, .any, .any, .any, .any, .any, .any, .any, .any, .any, .any, .any, .any, .any, .any, .any, .any, .any, .any, .any, .any, .any, .any, .any, .any, .any, .any, .any, .any, .any, .any, .any, .any, .any, .any, .any, .any, .any, .any, .any, .any, .any, .any, .any, .any, .any, .any, .any, .any, .any, .any, .any, .any, .any, .any, .any, .any, .any, .any, .any, .any, .any, .any, .any, .any, .any, .any, .any, .any, .any, .any, .any, .any, .any, .any, .any, .any, .any, .any, .any, .any, .any, .any, .any, .any, .any, .any, .any, .any, .any, .any]) (fun _ => M2) 0 w.length (Nat.zero_le _) ?_ ?_ ?_
      · refine Fg.of [] ?_ (by rw [List.append_nil]) (by simp) (by (simp [scL, V.sc]) <;> omega) u2.sc
        conv => whnf
        exact ⟨rfl, rfl, rfl, rfl, rfl, rfl, rfl⟩
      · intro k _ hk
        have hgk := hg k hk
        have hsk : ∀ K : V → Prop, K (.int .i64 (tot n w f k)) → rd1 (getB M2 (M1.length + 1)).b (0 + k * 1) K := fun K hK => SlI.at s2 (i := k) (by rw [tab_len]; exact hk) rfl (by rw [tab_get hk]; exact hK)
        (conv => whnf); repeat (first | (refine hsk _ ?_; conv => whnf) | (refine br_d (by omega) ?_; conv => whnf) | (refine br_nd (by omega) ?_; conv => whnf) | (refine br_eq (by omega) ?_; conv => whnf) | (refine br_neq (by omega) ?_; conv => whnf) | (refine br_ne (by omega) ?_; conv => whnf) | (refine br_no (bo_eqn (by omega)) ?_; conv => whnf) | (refine setB_app ?_; conv => whnf) | (refine setB_app0 ?_; conv => whnf) | (rw [getB_app]; conv => whnf) | (rw [getB_app0]; conv => whnf) | (refine addB_f8 ?_; conv => whnf) | (refine addB_f7 ?_; conv => whnf) | (refine addB_f6 ?_; conv => whnf) | (refine addB_f5 ?_; conv => whnf) | (refine addB_f4 ?_; conv => whnf) | (refine addB_f3 ?_; conv => whnf) | (refine addB_f2 ?_; conv => whnf) | (refine addB_f1 ?_; conv => whnf) | (refine addB_f0 ?_; conv => whnf))
        have hgs : gd w (k + 1) = (gd w k && decide (w.getD k 0 ≥ 0)) := rfl
        cases hgk2 : gd w k
        · (conv => whnf); repeat (first | (refine br_d (by omega) ?_; conv => whnf) | (refine br_nd (by omega) ?_; conv => whnf) | (refine br_eq (by omega) ?_; conv => whnf) | (refine br_neq (by omega) ?_; conv => whnf) | (refine br_ne (by omega) ?_; conv => whnf) | (refine br_no (bo_eqn (by omega)) ?_; conv => whnf) | (refine setB_app ?_; conv => whnf) | (refine setB_app0 ?_; conv => whnf) | (rw [getB_app]; conv => whnf) | (rw [getB_app0]; conv => whnf) | (refine addB_f8 ?_; conv => whnf) | (refine addB_f7 ?_; conv => whnf) | (refine addB_f6 ?_; conv => whnf) | (refine addB_f5 ?_; conv => whnf) | (refine addB_f4 ?_; conv => whnf) | (refine addB_f3 ?_; conv => whnf) | (refine addB_f2 ?_; conv => whnf) | (refine addB_f1 ?_; conv => whnf) | (refine addB_f0 ?_; conv => whnf))
          refine Fg.of [] ?_ (by rw [List.append_nil]) (by simp) (by (simp [scL, V.sc]) <;> omega) u2.sc
          conv => whnf
          exact ⟨rfl, rfl, rfl, rfl, by rw [hgs, hgk2]; rfl, wrapKL (by omega), rfl⟩
        · (conv => whnf); repeat (first | (refine SlI.at (k1.up u2) (i := k) hk rfl ?_; conv => whnf) | (refine br_d (by omega) ?_; conv => whnf) | (refine br_nd (by omega) ?_; conv => whnf) | (refine br_eq (by omega) ?_; conv => whnf) | (refine br_neq (by omega) ?_; conv => whnf) | (refine br_ne (by omega) ?_; conv => whnf) | (refine br_no (bo_eqn (by omega)) ?_; conv => whnf) | (refine setB_app ?_; conv => whnf) | (refine setB_app0 ?_; conv => whnf) | (rw [getB_app]; conv => whnf) | (rw [getB_app0]; conv => whnf) | (refine addB_f8 ?_; conv => whnf) | (refine addB_f7 ?_; conv => whnf) | (refine addB_f6 ?_; conv => whnf) | (refine addB_f5 ?_; conv => whnf) | (refine addB_f4 ?_; conv => whnf) | (refine addB_f3 ?_; conv => whnf) | (refine addB_f2 ?_; conv => whnf) | (refine addB_f1 ?_; conv => whnf) | (refine addB_f0 ?_; conv => whnf))
          refine Fg.of [] ?_ (by rw [List.append_nil]) (by simp) (by (simp [scL, V.sc]) <;> omega) u2.sc
          conv => whnf
          exact ⟨rfl, rfl, rfl, rfl, by rw [hgs, hgk2]; rfl, wrapKL (by omega), rfl⟩
      · rw [hgd]
        (conv => whnf); repeat (first | (refine ⟨_, _, hop, ?_⟩; conv => whnf) | (refine ⟨_, hop, ?_⟩; conv => whnf) | (refine br_d (by omega) ?_; conv => whnf) | (refine br_nd (by omega) ?_; conv => whnf) | (refine br_eq (by omega) ?_; conv => whnf) | (refine br_neq (by omega) ?_; conv => whnf) | (refine br_ne (by omega) ?_; conv => whnf) | (refine br_no (bo_eqn (by omega)) ?_; conv => whnf) | (refine setB_app ?_; conv => whnf) | (refine setB_app0 ?_; conv => whnf) | (rw [getB_app]; conv => whnf) | (rw [getB_app0]; conv => whnf) | (refine addB_f8 ?_; conv => whnf) | (refine addB_f7 ?_; conv => whnf) | (refine addB_f6 ?_; conv => whnf) | (refine addB_f5 ?_; conv => whnf) | (refine addB_f4 ?_; conv => whnf) | (refine addB_f3 ?_; conv => whnf) | (refine addB_f2 ?_; conv => whnf) | (refine addB_f1 ?_; conv => whnf) | (refine addB_f0 ?_; conv => whnf))
        exact ⟨rfl, by simpa using (u12.trans u3).app []⟩
  · have hop := opp15_no hng2 u2.sc (k2.up u2) (by omega) hopp
    refine COk_quiet Tryd.f5 Tryd.func5 (by kernel_rfl) rfl ?_
    (conv => whnf); repeat (first | (refine ⟨_, _, awake15_ok hm hsc, ?_⟩; conv => whnf) | (refine ⟨_, awake15_ok hm hsc, ?_⟩; conv => whnf) | (refine ⟨_, _, hnew, ?_⟩; conv => whnf) | (refine ⟨_, hnew, ?_⟩; conv => whnf) | (refine ⟨_, _, hmv, ?_⟩; conv => whnf) | (refine ⟨_, hmv, ?_⟩; conv => whnf) | (refine ⟨_, _, hadd, ?_⟩; conv => whnf) | (refine ⟨_, hadd, ?_⟩; conv => whnf) | (refine ⟨_, _, hadd2, ?_⟩; conv => whnf) | (refine ⟨_, hadd2, ?_⟩; conv => whnf) | (refine br_d (by omega) ?_; conv => whnf) | (refine br_nd (by omega) ?_; conv => whnf) | (refine br_eq (by omega) ?_; conv => whnf) | (refine br_neq (by omega) ?_; conv => whnf) | (refine br_ne (by omega) ?_; conv => whnf) | (refine br_no (bo_eqn (by omega)) ?_; conv => whnf) | (refine setB_app ?_; conv => whnf) | (refine setB_app0 ?_; conv => whnf) | (rw [getB_app]; conv => whnf) | (rw [getB_app0]; conv => whnf) | (refine addB_f8 ?_; conv => whnf) | (refine addB_f7 ?_; conv => whnf) | (refine addB_f6 ?_; conv => whnf) | (refine addB_f5 ?_; conv => whnf) | (refine addB_f4 ?_; conv => whnf) | (refine addB_f3 ?_; conv => whnf) | (refine addB_f2 ?_; conv => whnf) | (refine addB_f1 ?_; conv => whnf) | (refine addB_f0 ?_; conv => whnf))
    refine loop_to (fun k => [.any, .sl j1 o1 w.length, .sl j2 o2 f.length, .any, .any, .any, .any, .ptr (b + 1) 0, .any, .sl (M1.length + 1) 0 w.length, .any, .any, .any, .any, Bo (gd w k), I k, .any, .any, .any, .any, .any, .any, .any, .any, .any, .any, .any, .any, .any, .any, .any, .any, .any, .any, .any, .any, .any, .any, .any, .any, .any, .any, .any, .any, .any, .any, .any, .any, .any, .any, .any, .any, .any, .any, .any, .any, .any, .any, .any, .any, .any, .any, .any, .any, .any, .any, .any, .any, .any, .any, .any, .any, .any, .any, .any, .any, .any, .any, .any, .any, .any, .any, .any, .any, .any, .any, .any, .any, .any, .any, .any, .any, .any, .any, .any, .any, .any, .any, .any, .any, .any, .any, .any, .any, .any, .any, .any, .any, .any, .any, .any, .any, .any, .any, .any, .any, .any, .any, .any, .any, .any, .any, .any, .any, .any, .any, .any, .any, .any, .any, .any, .any, .any, .any]) (fun _ => M2) 0 w.length (Nat.zero_le _) ?_ ?_ ?_
    · refine Fg.of [] ?_ (by rw [List.append_nil]) (by simp) (by (simp [scL, V.sc]) <;> omega) u2.sc
      conv => whnf
      exact ⟨rfl, rfl, rfl, rfl, rfl, rfl, rfl⟩
    · intro k _ hk
      have hgk := hg k hk
      have hsk : ∀ K : V → Prop, K (.int .i64 (tot n w f k)) → rd1 (getB M2 (M1.length + 1)).b (0 + k * 1) K := fun K hK => SlI.at s2 (i := k) (by rw [tab_len]; exact hk) rfl (by rw [tab_get hk]; exact hK)
      (conv => whnf); repeat (first | (refine hsk _ ?_; conv => whnf) | (refine br_d (by omega) ?_; conv => whnf) | (refine br_nd (by omega) ?_; conv => whnf) | (refine br_eq (by omega) ?_; conv => whnf) | (refine br_neq (by omega) ?_; conv => whnf) | (refine br_ne (by omega) ?_; conv => whnf) | (refine br_no (bo_eqn (by omega)) ?_; conv => whnf) | (refine setB_app ?_; conv => whnf) | (refine setB_app0 ?_; conv => whnf) | (rw [getB_app]; conv => whnf) | (rw [getB_app0]; conv => whnf) | (refine addB_f8 ?_; conv => whnf) | (refine addB_f7 ?_; conv => whnf) | (refine addB_f6 ?_; conv => whnf) | (refine addB_f5 ?_; conv => whnf) | (refine addB_f4 ?_; conv => whnf) | (refine addB_f3 ?_; conv => whnf) | (refine addB_f2 ?_; conv => whnf) | (refine addB_f1 ?_; conv => whnf) | (refine addB_f0 ?_; conv => whnf))
      have hgs : gd w (k + 1) = (gd w k && decide (w.getD k 0 ≥ 0)) := rfl
      cases hgk2 : gd w k
      · (conv => whnf); repeat (first | (refine br_d (by omega) ?_; conv => whnf) | (refine br_nd (by omega) ?_; conv => whnf) | (refine br_eq (by omega) ?_; conv => whnf) | (refine br_neq (by omega) ?_; conv => whnf) | (refine br_ne (by omega) ?_; conv => whnf) | (refine br_no (bo_eqn (by omega)) ?_; conv => whnf) | (refine setB_app ?_; conv => whnf) | (refine setB_app0 ?_; conv => whnf) | (rw [getB_app]; conv => whnf) | (rw [getB_app0]; conv => whnf) | (refine addB_f8 ?_; conv => whnf) | (refine addB_f7 ?_; conv => whnf) | (refine addB_f6 ?_; conv => whnf) | (refine addB_f5 ?_; conv => whnf) | (refine addB_f4 ?_; conv => whnf) | (refine addB_f3 ?_; conv => whnf) | (refine addB_f2 ?_; conv => whnf) | (refine addB_f1 ?_; conv => whnf) | (refine addB_f0 ?_; conv => whnf))
        refine Fg.of [] ?_ (by rw [List.append_nil]) (by simp) (by (simp [scL, V.sc]) <;> omega) u2.sc
        conv => whnf
        exact ⟨rfl, rfl, rfl, rfl, by rw [hgs, hgk2]; rfl, wrapKL (by omega), rfl⟩
      · (conv => whnf); repeat (first | (refine SlI.at (k1.up u2) (i := k) hk rfl ?_; conv => whnf) | (refine br_d (by omega) ?_; conv => whnf) | (refine br_nd (by omega) ?_; conv => whnf) | (refine br_eq (by omega) ?_; conv => whnf) | (refine br_neq (by omega) ?_; conv => whnf) | (refine br_ne (by omega) ?_; conv => whnf) | (refine br_no (bo_eqn (by omega)) ?_; conv => whnf) | (refine setB_app ?_; conv => whnf) | (refine setB_app0 ?_; conv => whnf) | (rw [getB_app]; conv => whnf) | (rw [getB_app0]; conv => whnf) | (refine addB_f8 ?_; conv => whnf) | (refine addB_f7 ?_; conv => whnf) | (refine addB_f6 ?_; conv => whnf) | (refine addB_f5 ?_; conv => whnf) | (refine addB_f4 ?_; conv => whnf) | (refine addB_f3 ?_; conv => whnf) | (refine addB_f2 ?_; conv => whnf) | (refine addB_f1 ?_; conv => whnf) | (refine addB_f0 ?_; conv => whnf))
        refine Fg.of [] ?_ (by rw [List.append_nil]) (by simp) (by (simp [scL, V.sc]) <;> omega) u2.sc
        conv => whnf
        exact ⟨rfl, rfl, rfl, rfl, by rw [hgs, hgk2]; rfl, wrapKL (by omega), rfl⟩
    · (conv => whnf); repeat (first | (refine ⟨_, _, hop, ?_⟩; conv => whnf) | (refine ⟨_, hop, ?_⟩; conv => whnf) | (refine br_d (by omega) ?_; conv => whnf) | (refine br_nd (by omega) ?_; conv => whnf) | (refine br_eq (by omega) ?_; conv => whnf) | (refine br_neq (by omega) ?_; conv => whnf) | (refine br_ne (by omega) ?_; conv => whnf) | (refine br_no (bo_eqn (by omega)) ?_; conv => whnf) | (refine setB_app ?_; conv => whnf) | (refine setB_app0 ?_; conv => whnf) | (rw [getB_app]; conv => whnf) | (rw [getB_app0]; conv => whnf) | (refine addB_f8 ?_; conv => whnf) | (refine addB_f7 ?_; conv => whnf) | (refine addB_f6 ?_; conv => whnf) | (refine addB_f5 ?_; conv => whnf) | (refine addB_f4 ?_; conv => whnf) | (refine addB_f3 ?_; conv => whnf) | (refine addB_f2 ?_; conv => whnf) | (refine addB_f1 ?_; conv => whnf) | (refine addB_f0 ?_; conv => whnf))
      exact ⟨rfl, by simpa using u12.app []⟩
end Go.Proofs.YtjpkfdhfofaehaaDoor
