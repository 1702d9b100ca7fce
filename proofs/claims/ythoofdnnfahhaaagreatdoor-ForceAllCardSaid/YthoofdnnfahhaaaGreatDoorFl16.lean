/- The document's forces. No condition. -/
import Derived.Test.YthoofdnnfahhaaaGreatDoorFc
import Derived.Test.YthoofdnnfahhaaaGreatDoorFq
import Derived.Test.YthoofdnnfahhaaaGreatDoorRx
import Derived.Test.YthoofdnnfahhaaaGreatDoorLi6
import Derived.Test.YthoofdnnfahhaaaGreatDoorKr
namespace Go.Proofs.YthoofdnnfahhaaaGreatDoor
open Go Go.Eng Ieee
set_option maxRecDepth 100000
set_option linter.unusedSimpArgs false
set_option linter.unusedVariables false

theorem rmagn_w (b : Nat) (hb : b < 18446744073709551616) (m : List Blk) : COk Tryz.prog 3 136 [F b] m (F (absB b)) m := by
  have hab := absB_mod hb
  by_cases h : (b : Int) ≥ 9223372036854775808
  · have e : Op.negFloat .f64 b = absB b := by
      obtain ⟨R, hR, rfl⟩ : ∃ R, R < 2 ^ 63 ∧ b = wd true R := ⟨b - 9223372036854775808, by omega, by rw [wd_true]; omega⟩
      rw [neg_wd true hR, hab, wd_true, Bool.not_true, wd_false]; omega
    have hbl := fun m => rbelow_ok b m
    rw [decide_eq_true h] at hbl
    refine COk_quiet Tryz.f136 Tryz.func136 (by kernel_rfl) rfl ?_
    (conv => whnf); repeat (refine ⟨_, _, hbl _, ?_⟩; conv => whnf)
    exact ⟨by rw [← e]; rfl, [], by simp⟩
  · have hbl := fun m => rbelow_ok b m
    rw [decide_eq_false h] at hbl
    refine COk_quiet Tryz.f136 Tryz.func136 (by kernel_rfl) rfl ?_
    (conv => whnf); repeat (refine ⟨_, _, hbl _, ?_⟩; conv => whnf)
    exact ⟨by rw [hab, Nat.mod_eq_of_lt (by omega)], [], by simp⟩
theorem rmagn_ok {o : Option Nat} (ho : Wd o) (m : List Blk) : COk Tryz.prog 3 136 [.fl o] m (.fl (absO o)) m := by
  cases o with
  | some b => exact rmagn_w b (ho b rfl) m
  | none =>
    refine COk_bits [] (bs := []) (fun b hn => ?_)
    have hb : b < 18446744073709551616 := by have := hn.1; omega
    refine COk_res (fun n g x hx => ?_) (rmagn_w b hb m)
    obtain ⟨h1, h2⟩ := hn
    simp only [Rv] at hx ⊢
    obtain ⟨c, hc, rfl⟩ := hx
    have hc : c = absB b := hc
    refine ⟨c, ?_, rfl⟩
    subst hc
    have e3 : f64.signWeight = 2 ^ 63 := by decide
    have h2 : f64.infRung < b % f64.signWeight := h2
    refine ⟨?_, ?_⟩
    · rw [absB_mod hb]; omega
    · show f64.infRung < absB b % f64.signWeight
      rw [absB_mod hb, e3]
      rw [e3] at h2
      rw [show b % 9223372036854775808 % 2 ^ 63 = b % 2 ^ 63 by omega]
      exact h2
theorem rcut_ok {o : Option Nat} (ho : Wd o) (m : List Blk) : COk Tryz.prog 3 137 [.fl o] m (F (capF o)) m := by
  unfold capF
  cases h1 : fgt o (some topW)
  · cases h2 : flt o (some lowW)
    · have hn := fun m => rnone_ok ho m
      cases h3 : fne o o
      · rw [h3] at hn
        rw [if_neg (by decide), if_neg (by decide), if_neg (by decide)]
        refine COk_quiet Tryz.f137 Tryz.func137 (by kernel_rfl) rfl ?_
        (conv => whnf); repeat ((first | refine br_no h1 ?_ | refine br_no h2 ?_ | refine ⟨_, _, hn _, ?_⟩ | refine ⟨_, _, rcanon_ok ho _, ?_⟩); conv => whnf)
        exact ⟨rfl, [], by simp⟩
      · rw [h3] at hn
        rw [if_neg (by decide), if_neg (by decide), if_pos rfl]
        refine COk_quiet Tryz.f137 Tryz.func137 (by kernel_rfl) rfl ?_
        (conv => whnf); repeat ((first | refine br_no h1 ?_ | refine br_no h2 ?_ | refine ⟨_, _, hn _, ?_⟩); conv => whnf)
        exact ⟨rfl, [], by simp⟩
    · rw [if_neg (by decide), if_pos rfl]
      refine COk_quiet Tryz.f137 Tryz.func137 (by kernel_rfl) rfl ?_
      (conv => whnf); repeat ((first | refine br_no h1 ?_ | refine br_yes h2 ?_); conv => whnf)
      exact ⟨rfl, [], by simp⟩
  · rw [if_pos rfl]
    refine COk_quiet Tryz.f137 Tryz.func137 (by kernel_rfl) rfl ?_
    (conv => whnf); repeat (refine br_yes h1 ?_; conv => whnf)
    exact ⟨rfl, [], by simp⟩
section
variable {M : List Blk} {b n : Nat} (N : RNet M b n) (hn : 1 ≤ n) (hn' : n ≤ 32) {j0 j1 j2 j3 : Nat} (sky step : Int)
include N hn hn'
theorem rfits_yes {n0 n1 n2 n3 : Nat} (h : Fit n n0 n1 n2 n3) : COk Tryz.prog 3 126 [.ptr (b + 1) 0, seaV j0 j1 j2 j3 n0 n1 n2 n3 sky step] M (Bo true) M := by
  obtain ⟨h0, h1, h2, h3⟩ := h
  subst h0 h1 h2 h3
  refine COk_quiet Tryz.f126 Tryz.func126 (by kernel_rfl) rfl ?_
  (conv => whnf); repeat ((first | refine ⟨_, _, rgcells_ok (N.more _) hn hn', ?_⟩ | refine ⟨_, rgedges_ok (N.more _), ?_⟩ | refine br_eq rfl ?_ | rw [getB_app0] | refine addB_f0 ?_); conv => whnf)
  exact ⟨congrArg V.bool (by simp), _, rfl⟩
theorem rfits_no {n0 n1 n2 n3 : Nat} (h : ¬ Fit n n0 n1 n2 n3) : COk Tryz.prog 3 126 [.ptr (b + 1) 0, seaV j0 j1 j2 j3 n0 n1 n2 n3 sky step] M (Bo false) M := by
  by_cases h0 : n0 = 6 * (n * n)
  · by_cases h1 : n1 = 6 * (n * n)
    · by_cases h2 : n2 = 6 * (n * n)
      · have h3 : n3 ≠ (edges n).length := fun h3 => h ⟨h0, h1, h2, h3⟩
        subst h0 h1 h2
        refine COk_quiet Tryz.f126 Tryz.func126 (by kernel_rfl) rfl ?_
        (conv => whnf); repeat ((first | refine ⟨_, _, rgcells_ok (N.more _) hn hn', ?_⟩ | refine ⟨_, rgedges_ok (N.more _), ?_⟩ | refine br_eq rfl ?_ | rw [getB_app0] | refine addB_f0 ?_); conv => whnf)
        exact ⟨congrArg V.bool (by first | rfl | (simp; done) | (simp; omega)), _, rfl⟩
      · subst h0 h1
        refine COk_quiet Tryz.f126 Tryz.func126 (by kernel_rfl) rfl ?_
        (conv => whnf); repeat ((first | refine ⟨_, _, rgcells_ok (N.more _) hn hn', ?_⟩ | refine br_eq rfl ?_ | refine br_nd (by omega) ?_ | rw [getB_app0] | refine addB_f0 ?_); conv => whnf)
        exact ⟨congrArg V.bool (by first | rfl | (simp; done) | (simp; omega)), _, rfl⟩
    · subst h0
      refine COk_quiet Tryz.f126 Tryz.func126 (by kernel_rfl) rfl ?_
      (conv => whnf); repeat ((first | refine ⟨_, _, rgcells_ok (N.more _) hn hn', ?_⟩ | refine br_eq rfl ?_ | refine br_nd (by omega) ?_ | rw [getB_app0] | refine addB_f0 ?_); conv => whnf)
      exact ⟨congrArg V.bool (by first | rfl | (simp; done) | (simp; omega)), _, rfl⟩
  · refine COk_quiet Tryz.f126 Tryz.func126 (by kernel_rfl) rfl ?_
    (conv => whnf); repeat ((first | refine ⟨_, _, rgcells_ok (N.more _) hn hn', ?_⟩ | refine br_nd (by omega) ?_ | rw [getB_app0] | refine addB_f0 ?_); conv => whnf)
    exact ⟨congrArg V.bool (by first | rfl | (simp; done) | (simp; omega)), _, rfl⟩
theorem rOpen_nf {n0 n1 n2 n3 : Nat} (hf : ¬ Fit n n0 n1 n2 n3) (e : Int) : COk Tryz.prog 3 56 [.ptr (b + 1) 0, seaV j0 j1 j2 j3 n0 n1 n2 n3 sky step, I e] M (Bo false) M := by
  refine COk_quiet Tryz.f56 Tryz.func56 (by kernel_rfl) rfl ?_
  (conv => whnf); repeat ((first | refine ⟨_, _, rfits_no (N.more _) hn hn' sky step hf, ?_⟩ | rw [getB_app0] | refine addB_f0 ?_); conv => whnf)
  exact ⟨rfl, _, rfl⟩
theorem rOpen_no {n0 n1 n2 n3 : Nat} (hf : Fit n n0 n1 n2 n3) (e : Int) (he : ¬ (0 ≤ e ∧ e < (edges n).length)) : COk Tryz.prog 3 56 [.ptr (b + 1) 0, seaV j0 j1 j2 j3 n0 n1 n2 n3 sky step, I e] M (Bo false) M := by
  refine COk_quiet Tryz.f56 Tryz.func56 (by kernel_rfl) rfl ?_
  (conv => whnf); repeat ((first | refine ⟨_, _, rfits_yes (N.more _) hn hn' sky step hf, ?_⟩ | refine ⟨_, _, redge_no (N.more _) e he, ?_⟩ | refine setB_app ?_ | rw [getB_app] | rw [getB_app0] | refine addB_f1 ?_ | refine addB_f0 ?_); conv => whnf)
  exact ⟨rfl, _, rfl⟩
end
section
variable {M : List Blk} (hm : Top M) {b n : Nat} (N : RNet M b n) (hn : 1 ≤ n) (hn' : n ≤ 32) {j0 j1 j2 j3 : Nat} {Be : List Nat} {Wt Tr : List Int} {Sp : List Nat} (S : SeaR M j0 j1 j2 j3 Be Wt Tr Sp) (sky step : Int)
include hm N hn hn' S
theorem rflevel_ok {c : Nat} (hc : c < 6 * (n * n)) (hB : c < Be.length) (hW : c < Wt.length) : COk Tryz.prog 3 134 [.ptr (b + 1) 0, seaV j0 j1 j2 j3 Be.length Wt.length Tr.length Sp.length sky step, I c] M (F (lk n Be Wt c).l) M := by
  have hL := rlevel_ok (Be.getD c 0) (Wt.getD c 0) (areaC n c) (S.s1.wf _ hW) (areaC_64 n c)
  have hA := fun z => rgarea_ok (hm.app z) (N.more z) hn hn' hc
  refine COk_quiet Tryz.f134 Tryz.func134 (by kernel_rfl) rfl ?_
  (conv => whnf); repeat ((first | refine SlF.at (S.s0.app _) (i := c) hB rfl ?_ | refine SlI.at (S.s1.app _) (i := c) hW rfl ?_ | refine ⟨_, hA _, ?_⟩ | refine ⟨_, hL _, ?_⟩ | refine br_d (by omega) ?_ | rw [getB_app0] | refine addB_f0 ?_); conv => whnf)
  exact ⟨rfl, _, rfl⟩
theorem rfdepth_ok {c : Nat} (hc : c < 6 * (n * n)) (hW : c < Wt.length) : COk Tryz.prog 3 135 [.ptr (b + 1) 0, seaV j0 j1 j2 j3 Be.length Wt.length Tr.length Sp.length sky step, I c] M (.fl (lk n Be Wt c).d) M := by
  have hD := rdepth_ok (Wt.getD c 0) (areaC n c) (S.s1.wf _ hW) (areaC_64 n c)
  have hA := fun z => rgarea_ok (hm.app z) (N.more z) hn hn' hc
  refine COk_quiet Tryz.f135 Tryz.func135 (by kernel_rfl) rfl ?_
  (conv => whnf); repeat ((first | refine SlI.at (S.s1.app _) (i := c) hW rfl ?_ | refine ⟨_, hA _, ?_⟩ | refine ⟨_, hD _, ?_⟩ | refine br_d (by omega) ?_ | rw [getB_app0] | refine addB_f0 ?_); conv => whnf)
  exact ⟨rfl, _, rfl⟩
set_option maxHeartbeats 0 in
theorem rOpen_ok (hf : Fit n Be.length Wt.length Tr.length Sp.length) {e : Nat} {x : Ed} (hx : (edges n)[e]? = some x) : COk Tryz.prog 3 56 [.ptr (b + 1) 0, seaV j0 j1 j2 j3 Be.length Wt.length Tr.length Sp.length sky step, I e] M (Bo (openL (lk n Be Wt x.1) (lk n Be Wt x.2.2.1))) M := by
  obtain ⟨c1, s1, c12, c2, s2, _⟩ := edge_of hn hx
  have hfit := fun z => rfits_yes (N.more z) hn hn' sky step (j0 := j0) (j1 := j1) (j2 := j2) (j3 := j3) hf
  obtain ⟨q0, q1, q2, q3⟩ := hf
  have hl := fun z => rflevel_ok (hm.app z) (N.more z) hn hn' (S.app z) sky step (c := x.1) c1 (by omega) (by omega)
  have hr := fun z => rflevel_ok (hm.app z) (N.more z) hn hn' (S.app z) sky step (c := x.2.2.1) c2 (by omega) (by omega)
  have hv : openL (lk n Be Wt x.1) (lk n Be Wt x.2.2.1) = (if (!decide (Wt.getD x.1 0 > 0) && !decide (Wt.getD x.2.2.1 0 > 0)) = true then false else if (!decide (Wt.getD x.1 0 > 0) && fle (some (lk n Be Wt x.2.2.1).l) (some (Be.getD x.1 0))) = true then false else if (!decide (Wt.getD x.2.2.1 0 > 0) && fle (some (lk n Be Wt x.1).l) (some (Be.getD x.2.2.1 0))) = true then false else true) := rfl
  rw [hv]
  generalize (lk n Be Wt x.1).l = L1 at *
  generalize (lk n Be Wt x.2.2.1).l = L2 at *
  cases hwl : decide (Wt.getD x.1 0 > 0) <;> cases hwr : decide (Wt.getD x.2.2.1 0 > 0) <;> cases h1 : fle (some L2) (some (Be.getD x.1 0)) <;> cases h2 : fle (some L1) (some (Be.getD x.2.2.1 0))
  all_goals
    refine COk_quiet Tryz.f56 Tryz.func56 (by kernel_rfl) rfl ?_
    (conv => whnf); repeat ((first | refine ⟨_, _, hfit _, ?_⟩ | refine ⟨_, _, redge_ok (N.more _) e x hx, ?_⟩ | refine SlI.at (S.s1.app _) (i := x.1) (by omega) rfl ?_ | refine SlI.at (S.s1.app _) (i := x.2.2.1) (by omega) rfl ?_ | refine SlF.at (S.s0.app _) (i := x.1) (by omega) rfl ?_ | refine SlF.at (S.s0.app _) (i := x.2.2.1) (by omega) rfl ?_ | refine ⟨_, hl _, ?_⟩ | refine ⟨_, hr _, ?_⟩ | refine br_no h1 ?_ | refine br_yes h1 ?_ | refine br_no h2 ?_ | refine br_yes h2 ?_ | rw [hwl] | rw [hwr] | refine br_d (by omega) ?_ | refine setB_app ?_ | rw [getB_app] | rw [getB_app0] | refine addB_f1 ?_ | refine addB_f0 ?_); conv => whnf)
    exact ⟨rfl, _, rfl⟩
set_option maxHeartbeats 0 in
theorem rSpeed_ok (hf : Fit n Be.length Wt.length Tr.length Sp.length) (side : Int) (p : PlF) (lim : Int) (riv : Bool) (ra : Option Addr) (rl rc : Nat) {e : Nat} {x : Ed} (hx : (edges n)[e]? = some x) :
    COk Tryz.prog 3 57 [.ptr (b + 1) 0, planV side p lim riv ra rl rc, seaV j0 j1 j2 j3 Be.length Wt.length Tr.length Sp.length sky step, I e] M (F (speedE n p Be Wt Sp e x)) M := by
  obtain ⟨c1, s1, c12, c2, s2, _⟩ := edge_of hn hx
  have he : e < (edges n).length := (List.getElem?_eq_some_iff.1 hx).1
  have ho := fun z => rOpen_ok (hm.app z) (N.more z) hn hn' (S.app z) sky step hf hx
  obtain ⟨q0, q1, q2, q3⟩ := hf
  have hl := fun z => rflevel_ok (hm.app z) (N.more z) hn hn' (S.app z) sky step (c := x.1) c1 (by omega) (by omega)
  have hr := fun z => rflevel_ok (hm.app z) (N.more z) hn hn' (S.app z) sky step (c := x.2.2.1) c2 (by omega) (by omega)
  have dl := fun z => rfdepth_ok (hm.app z) (N.more z) hn hn' (S.app z) sky step (c := x.1) c1 (by omega)
  have dr := fun z => rfdepth_ok (hm.app z) (N.more z) hn hn' (S.app z) sky step (c := x.2.2.1) c2 (by omega)
  have hg := fun z => rggap_at (hm.app z) (N.more z) hn hn' e x hx
  unfold speedE speedL
  cases h0 : openL (lk n Be Wt x.1) (lk n Be Wt x.2.2.1)
  · rw [h0] at ho
    rw [if_neg (by decide)]
    refine COk_quiet Tryz.f57 Tryz.func57 (by kernel_rfl) rfl ?_
    (conv => whnf); repeat ((first | refine ⟨_, _, ho _, ?_⟩ | rw [getB_app] | refine addB_f1 ?_ | refine addB_f0 ?_); conv => whnf)
    exact ⟨rfl, _, rfl⟩
  · rw [h0] at ho
    rw [if_pos rfl]
    cases h1 : fgt (midF (lk n Be Wt x.1) (lk n Be Wt x.2.2.1)) (some 0)
    · rw [if_neg (by decide)]
      refine COk_quiet Tryz.f57 Tryz.func57 (by kernel_rfl) rfl ?_
      (conv => whnf); repeat ((first | refine ⟨_, _, ho _, ?_⟩ | refine ⟨_, _, redge_ok (N.more _) e x hx, ?_⟩ | refine ⟨_, hl _, ?_⟩ | refine ⟨_, hr _, ?_⟩ | refine ⟨_, dl _, ?_⟩ | refine ⟨_, dr _, ?_⟩ | refine ⟨_, _, hg _, ?_⟩ | refine SlF.at (S.s3.app _) (i := e) (by omega) rfl ?_ | refine br_not (br_no h1 ?_) | refine br_d (by omega) ?_ | refine setB_app ?_ | rw [getB_app] | rw [getB_app0] | refine addB_f2 ?_ | refine addB_f1 ?_ | refine addB_f0 ?_); conv => whnf)
      exact ⟨rfl, _, rfl⟩
    · rw [if_pos rfl]
      refine COk_quiet Tryz.f57 Tryz.func57 (by kernel_rfl) rfl ?_
      (conv => whnf); repeat ((first | refine ⟨_, _, ho _, ?_⟩ | refine ⟨_, _, redge_ok (N.more _) e x hx, ?_⟩ | refine ⟨_, hl _, ?_⟩ | refine ⟨_, hr _, ?_⟩ | refine ⟨_, dl _, ?_⟩ | refine ⟨_, dr _, ?_⟩ | refine ⟨_, _, hg _, ?_⟩ | refine SlF.at (S.s3.app _) (i := e) (by omega) rfl ?_ | refine br_not (br_yes h1 ?_) | refine ⟨_, _, rmagn_ok (fsub_lt _ _) _, ?_⟩ | refine ⟨_, _, rcut_ok (fdiv_lt _ _) _, ?_⟩ | refine br_d (by omega) ?_ | refine setB_app ?_ | rw [getB_app] | rw [getB_app0] | refine addB_f2 ?_ | refine addB_f1 ?_ | refine addB_f0 ?_); conv => whnf)
      exact ⟨rfl, _, rfl⟩
end
abbrev plC (side : Int) (p : PlF) (lim : Int) (riv : Bool) (ra : Option Addr) (rl rc : Nat) : Blk := ⟨true, .cells [I side, F p.dt, F p.gr, F p.dr, I lim, Bo riv, .raw (.slice ra rl rc)]⟩
abbrev seC (j0 j1 j2 j3 n0 n1 n2 n3 : Nat) (sky step : Int) : Blk := ⟨true, .cells [.sl j0 0 n0, .sl j1 0 n1, .sl j2 0 n2, .sl j3 0 n3, .int .i64 sky, I step]⟩
section
variable {M : List Blk} {b n : Nat} (N : RNet M b n) (hn : 1 ≤ n) (hn' : n ≤ 32) {j0 j1 j2 j3 : Nat} (sky step : Int)
include N hn hn'
theorem rSpeed_nf {n0 n1 n2 n3 : Nat} (e : Int) (h : ¬ Fit n n0 n1 n2 n3 ∨ ¬ (0 ≤ e ∧ e < (edges n).length)) (side : Int) (p : PlF) (lim : Int) (riv : Bool) (ra : Option Addr) (rl rc : Nat) : COk Tryz.prog 3 57 [.ptr (b + 1) 0, planV side p lim riv ra rl rc, seaV j0 j1 j2 j3 n0 n1 n2 n3 sky step, I e] M (F 0) M := by
  have ho : ∀ z, COk Tryz.prog 3 56 [.ptr (b + 1) 0, seaV j0 j1 j2 j3 n0 n1 n2 n3 sky step, I e] (M ++ z) (Bo false) (M ++ z) := fun z => by
    by_cases hf : Fit n n0 n1 n2 n3
    · exact rOpen_no (N.more z) hn hn' sky step hf e (h.resolve_left fun k => k hf)
    · exact rOpen_nf (N.more z) hn hn' sky step hf e
  refine COk_quiet Tryz.f57 Tryz.func57 (by kernel_rfl) rfl ?_
  (conv => whnf); repeat ((first | refine ⟨_, _, ho _, ?_⟩ | rw [getB_app] | refine addB_f1 ?_ | refine addB_f0 ?_); conv => whnf)
  exact ⟨rfl, _, rfl⟩
theorem rSpeeds_no {n0 n1 n2 n3 : Nat} (hf : ¬ Fit n n0 n1 n2 n3) (side : Int) (p : PlF) (lim : Int) (riv : Bool) (ra : Option Addr) (rl rc : Nat) : COk Tryz.prog 3 54 [.ptr (b + 1) 0, planV side p lim riv ra rl rc, seaV j0 j1 j2 j3 n0 n1 n2 n3 sky step] M (.tup [nilS', I 1]) M := by
  refine COk_quiet Tryz.f54 Tryz.func54 (by kernel_rfl) rfl ?_
  (conv => whnf); repeat ((first | refine ⟨_, _, rfits_no (N.more _) hn hn' sky step hf, ?_⟩ | rw [getB_app] | refine addB_f1 ?_ | refine addB_f0 ?_); conv => whnf)
  exact ⟨rfl, _, rfl⟩
end
section
variable {M : List Blk} (hm : Top M) {b n : Nat} (hsc : scM M.length M = true) (N : RNet M b n) {j0 j1 j2 j3 : Nat} {Be : List Nat} {Wt Tr : List Int} {Sp : List Nat} (S : SeaR M j0 j1 j2 j3 Be Wt Tr Sp) (sky step : Int) (hf : Fit n Be.length Wt.length Tr.length Sp.length) (hn : 1 ≤ n) (hn' : n ≤ 32)
include hm hsc N S hf hn hn'
set_option maxHeartbeats 0 in
theorem rSpeeds_ok (side : Int) (p : PlF) (lim : Int) (riv : Bool) (ra : Option Addr) (rl rc : Nat) :
    COk Tryz.prog 3 54 [.ptr (b + 1) 0, planV side p lim riv ra rl rc, seaV j0 j1 j2 j3 Be.length Wt.length Tr.length Sp.length sky step] M (.tup [.gs (M.length + 3) (Sp.length - 1) 1 Sp.length, I 0])
      (M ++ [plC side p lim riv ra rl rc, seC j0 j1 j2 j3 Be.length Wt.length Tr.length Sp.length sky step, ⟨true, .cells [F (speedT n p Be Wt Sp 0)]⟩, ⟨true, .gflts (Sp.length - 1) (tab Sp.length (speedT n p Be Wt Sp))⟩]) := by
  have l0 := S.s0.lt
  have l1 := S.s1.lt
  have l2 := S.s2.lt
  have l3 := S.s3.lt
  have hnl := N.lt
  have hlen := edges_len hn
  have hsq : n * n ≤ 1024 := Nat.mul_le_mul hn' hn'
  have hsq1 : 1 ≤ n * n := Nat.mul_le_mul hn hn
  have hfit := fun z => rfits_yes (N.more z) hn hn' sky step (j0 := j0) (j1 := j1) (j2 := j2) (j3 := j3) hf
  have hd := hf.d
  have hge : ∀ x, COk Tryz.prog 3 33 [.ptr (b + 1) 0] (M ++ x) (I Sp.length) (M ++ x) := fun x => by rw [hd]; exact rgedges_ok (N.more x)
  have hscm : ∀ (k v : Nat) (X : List Nat), scM (M ++ ([plC side p lim riv ra rl rc, seC j0 j1 j2 j3 Be.length Wt.length Tr.length Sp.length sky step, ⟨true, .cells [F k]⟩, ⟨true, .gflts v X⟩] : List Blk)).length (M ++ ([plC side p lim riv ra rl rc, seC j0 j1 j2 j3 Be.length Wt.length Tr.length Sp.length sky step, ⟨true, .cells [F k]⟩, ⟨true, .gflts v X⟩] : List Blk)) = true := fun k v X => scM_app (scM_mono (by simp) _ hsc) (by simp [scM, B.sc, scL, V.sc]; omega)
  refine COk_of_ev Tryz.f54 Tryz.func54 (by kernel_rfl) (by simp) (by simp [V.sc, scL]) (.inr (hscm _ _ _)) ?_
  have hx0 := List.getElem?_eq_getElem (l := edges n) (show 0 < (edges n).length by omega)
  generalize (edges n)[0] = x0 at hx0
  have hv0 := fun z => rSpeed_ok (hm.app z) (N.more z) hn hn' (S.app z) sky step hf side p lim riv ra rl rc hx0
  rw [← speedT_at (p := p) (Be := Be) (Wt := Wt) (Sp := Sp) hx0] at hv0
  (conv => whnf); repeat ((first | refine ⟨_, _, hfit _, ?_⟩ | rw [getB_app] | refine addB_f1 ?_ | refine addB_f0 ?_); conv => whnf)
  refine lr ?_
  (conv => whnf); repeat ((first | refine ⟨_, _, hge _, ?_⟩ | refine ⟨_, _, hv0 _, ?_⟩ | refine ⟨⟨by decide, by decide⟩, ?_⟩ | refine br_d (by omega) ?_ | rw [getB_app] | rw [getB_app0] | refine addB_f3 ?_ | refine addB_f2 ?_); conv => whnf)
  refine loop_to (fun k => [.ptr (b + 1) 0, .any, .any, .any, .ptr M.length 0, .ptr (M.length + 1) 0, .any, .any, .gs (M.length + 3) (k - 1) 1 k, I k, .any, .any, .any, .any, .any, .any, .any, .any, .any, .any, .any, .any, .any, .any, .any, .any, .any, .any, .any, .any, .any]) (fun k => M ++ [plC side p lim riv ra rl rc, seC j0 j1 j2 j3 Be.length Wt.length Tr.length Sp.length sky step, ⟨true, .cells [F (speedT n p Be Wt Sp 0)]⟩, ⟨true, .gflts (k - 1) (tab k (speedT n p Be Wt Sp))⟩]) 1 Sp.length (by omega) ?_ ?_ ?_
  · refine Fg.of [] ?_ (by first | (rw [List.append_nil]; done) | (rw [List.append_nil]; rfl)) (by simp) (by (simp [scL, V.sc]) <;> omega) (hscm _ _ _)
    conv => whnf
    exact ⟨rfl, rfl, rfl, rfl, wrapKV (k := 0) (by decide), rfl⟩
  · intro c hc1 hc2
    obtain ⟨v, rfl⟩ : ∃ v, c = v + 1 := ⟨c - 1, by omega⟩
    have hx := List.getElem?_eq_getElem (l := edges n) (show v + 1 < (edges n).length by omega)
    generalize (edges n)[v + 1] = x at hx
    have hv := fun z => rSpeed_ok (hm.app z) (N.more z) hn hn' (S.app z) sky step hf side p lim riv ra rl rc hx
    rw [← speedT_at (p := p) (Be := Be) (Wt := Wt) (Sp := Sp) hx] at hv
    (conv => whnf); repeat ((first | refine ⟨_, _, hge _, ?_⟩ | refine ⟨_, _, hv _, ?_⟩ | refine br_d (by omega) ?_ | rw [getB_app] | rw [getB_app0] | refine addB_f4 ?_); conv => whnf)
    refine ⟨⟨rfl, rfl, (by show (tab (v + 1) (speedT n p Be Wt Sp)).length = (v + 1) * 1; rw [tab_len]; omega), (by show (v + 1 + 1) * 8 ≤ _; omega)⟩, ?_⟩
    (conv => whnf); repeat (refine setB_app ?_; conv => whnf)
    refine Fg.of [_] ?_ (by rw [List.append_assoc, show v + 1 + 1 - 1 = v + 1 from rfl, tab_succ (v + 1)]; rfl) (by simp) (by (simp [scL, V.sc]) <;> omega) (hscm _ _ _)
    conv => whnf
    exact ⟨rfl, rfl, rfl, rfl, wrapKL (by omega), rfl⟩
  · (conv => whnf); repeat ((first | refine ⟨_, _, hge _, ?_⟩ | refine br_nd (by omega) ?_); conv => whnf)
    exact ⟨rfl, [], by rw [List.append_nil]⟩
end
def gfS (L w i : Nat) : Option Nat := if i = L + 3 then some (w - 1) else none
theorem rSpeeds_up {M : List Blk} (hm : Top M) {b n : Nat} (hsc : scM M.length M = true) (N : RNet M b n) {j0 j1 j2 j3 : Nat} {Be : List Nat} {Wt Tr : List Int} {Sp : List Nat} (S : SeaR M j0 j1 j2 j3 Be Wt Tr Sp) (sky step : Int) (hf : Fit n Be.length Wt.length Tr.length Sp.length) (hn : 1 ≤ n) (hn' : n ≤ 32) (side : Int) (p : PlF) (lim : Int) (riv : Bool) (ra : Option Addr) (rl rc : Nat) :
    ∃ M', COk Tryz.prog 3 54 [.ptr (b + 1) 0, planV side p lim riv ra rl rc, seaV j0 j1 j2 j3 Be.length Wt.length Tr.length Sp.length sky step] M (.tup [.sl (M.length + 3) 0 Sp.length, I 0]) M' ∧ Up M M' ∧ SlF M' (M.length + 3) 0 (tab Sp.length (speedT n p Be Wt Sp)) := by
  have h := rSpeeds_ok hm hsc N S sky step hf hn hn' side p lim riv ra rl rc
  have at3 : gfS M.length Sp.length (M.length + 3) = some (Sp.length - 1) := if_pos rfl
  have ne : ∀ k, k ≠ M.length + 3 → gfS M.length Sp.length k = none := fun k hk => if_neg hk
  have h9 := COk.settle (N' := [⟨false, .dead⟩, ⟨false, .dead⟩, ⟨false, .dead⟩, ⟨true, .flts (tab Sp.length (speedT n p Be Wt Sp))⟩]) (gfS M.length Sp.length) h ?_ ?_ ?_ ?_
  · refine ⟨M ++ [⟨false, .dead⟩, ⟨false, .dead⟩, ⟨false, .dead⟩, ⟨true, .flts (tab Sp.length (speedT n p Be Wt Sp))⟩], ?_, Up.of hsc rfl, SlF.tab (getB_app 3) (fun i hi => speedT_in _ _ _ _ _ _) S.s3.short⟩
    have e : (V.tup [.gs (M.length + 3) (Sp.length - 1) 1 Sp.length, I 0]).stl (gfS M.length Sp.length) = .tup [.sl (M.length + 3) 0 Sp.length, I 0] := by
      show V.tup [V.stl _ (.gs (M.length + 3) (Sp.length - 1) 1 Sp.length), I 0] = _
      simp only [V.stl, at3]
    rw [e] at h9
    exact h9
  · intro i hi
    exact ne i (by omega)
  · intro i hi
    have hi : M.length + 4 ≤ i := hi
    exact ne i (by omega)
  · refine ⟨?_, trivial, trivial⟩
    intro u hu
    exact (Option.some.inj (at3.symm.trans hu)).symm
  · exact ⟨.gone (.inl (ne _ (by omega))) (.inl rfl), .gone (.inl (ne _ (by omega))) (.inl rfl), .gone (.inl (ne _ (by omega))) (.inl rfl), .flts at3 (fun _ => rfl), trivial⟩
end Go.Proofs.YthoofdnnfahhaaaGreatDoor
