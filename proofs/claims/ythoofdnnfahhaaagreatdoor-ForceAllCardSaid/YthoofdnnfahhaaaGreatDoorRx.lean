/- The document's depths over edges. No condition. -/
import Derived.Test.YthoofdnnfahhaaaGreatDoorRs
import Derived.Test.YthoofdnnfahhaaaGreatDoorRq
namespace Go.Proofs.YthoofdnnfahhaaaGreatDoor
open Go Go.Eng Ieee
set_option maxRecDepth 100000
set_option linter.unusedSimpArgs false
set_option linter.unusedVariables false

theorem roundT_64 {o : Option Nat} (hw : Wd o) : in64 (roundT o) := by
  have hi := infR_eq
  cases o with
  | none => decide
  | some b =>
    rcases nan_or (hw b rfl) with hn | ⟨s, R, hR, rfl⟩
    · rw [roundT_nan hn]; decide
    · rw [roundT_wd s hR]
      by_cases h : R < wholeB
      · have hz := (near_is h).choose_spec.2.2
        rw [if_pos h]
        cases s
        · rw [if_neg (by decide)]; exact ⟨by omega, by omega⟩
        · rw [if_pos rfl]; exact ⟨by omega, by omega⟩
      · rw [if_neg h]
        split <;> decide
theorem areaC_64 (n c : Nat) : in64 (areaC n c) := by
  unfold areaC areaT
  simp only
  have := roundT_64 (o := areaY (cornerF n (c / (n * n)) (c % n) (c / n % n)) (cornerF n (c / (n * n)) (c % n + 1) (c / n % n)) (cornerF n (c / (n * n)) (c % n + 1) (c / n % n + 1)) (cornerF n (c / (n * n)) (c % n) (c / n % n + 1))) (fmul_lt' _ _)
  split
  · decide
  · exact this
theorem level_lt (b : Nat) (w a : Int) : levelF b w a < 18446744073709551616 := by
  have hq : qn < 18446744073709551616 := by decide
  have hw := fadd_lt (some b) (depthF w a)
  unfold levelF
  generalize fadd (some b) (depthF w a) = o at *
  cases o with
  | none => exact hq
  | some x =>
    have := hw x rfl
    unfold canonF
    split
    · exact hq
    · split
      · decide
      · exact this
theorem lt_no_gt {x y : Option Nat} (h : flt x y = true) : fgt x y = false := by
  unfold flt at h; unfold fgt
  have h : fcmp x y = some .lt := by simpa using h
  rw [h]; rfl
section
variable {M : List Blk} {b n : Nat} (hm : Top M) (N : RNet M b n) {j0 j1 : Nat} {vT vS : V} {Be : List Nat} {Wt : List Int} (S0 : SlF M j0 0 Be) (S1 : SlI M j1 0 Wt) (o2 : vT.one = true) (o3 : vS.one = true) (sky step : Int)
include hm N S0 S1 o2 o3 in
set_option maxHeartbeats 0 in
theorem rdepth12_ok (hn : 1 ≤ n) (hn' : n ≤ 32) {e : Nat} {y : Ed} (hx : (edges n)[e]? = some y) (hB : Be.length = 6 * (n * n)) (hW : Wt.length = 6 * (n * n)) (lim : Int) (u : Nat) :
    COk Tryz.prog 3 41 [.ptr (b + 1) 0, I lim, seaQ j0 j1 Be.length Wt.length vT vS sky step, I e, F u] M (F (reconF n lim Be Wt y u)) M := by
  have l0 := S0.lt
  have l1 := S1.lt
  have hnl := N.lt
  obtain ⟨c1, s1, c12, c2, s2, _⟩ := edge_of hn hx
  have b1 := (nbC_lt (s := (y.2.1 + 2) % 4) hn c1).1
  have b2 := (nbC_lt (s := (y.2.2.2 + 2) % 4) hn c2).1
  have hge : ∀ z, COk Tryz.prog 3 31 [.ptr (b + 1) 0] (M ++ z) (I Be.length) (M ++ z) := fun z => by rw [hB]; exact rgcells_ok (N.more z) hn hn'
  have hWB : Wt.length = Be.length := by rw [hW, hB]
  have hone : allOne [V.sl j0 0 Be.length, V.sl j1 0 Be.length, vT, vS, V.int IntKind.i64 sky, I step] = true := by
    simp only [allOne, o2, o3, Bool.and_true, Bool.true_and]
    rfl
  refine COk_quiet Tryz.f41 Tryz.func41 (by kernel_rfl) rfl ?_
  rw [hWB]
  (conv => whnf); repeat ((first | refine br_yes hone ?_ | refine ⟨_, _, redge_ok (N.more _) e y hx, ?_⟩ | refine ⟨_, hge _, ?_⟩ | refine ⟨_, _, rbehind_ok (hm.app _) (N.more _) hn hn' e y hx, ?_⟩ | refine br_no (bo_eqn rfl) ?_ | refine setB_app ?_ | rw [getB_app] | rw [getB_app0] | refine addB_f1 ?_ | refine addB_f0 ?_); conv => whnf)
  cases h : flt (some u) (some 0)
  · cases hgt : fgt (some u) (some 0)
    · (conv => whnf); repeat ((first | refine br_not (br_no hgt ?_) | refine br_not (br_no h ?_)); conv => whnf)
      refine ⟨?_, _, rfl⟩
      exact congrArg (fun z => F z) ((if_neg (Bool.eq_false_iff.1 hgt)).trans (if_neg (Bool.eq_false_iff.1 h))).symm
    · have hv : reconF n lim Be Wt y u = reconW n lim Be Wt y.1 y.2.2.1 (nbC n y.1 ((y.2.1 + 2) % 4)).1 := if_pos hgt
      have hU := rdepth_ok (Wt.getD y.1 0) (areaC n y.1) (S1.wf _ (by omega)) (areaC_64 n y.1)
      have hD := rdepth_ok (Wt.getD y.2.2.1 0) (areaC n y.2.2.1) (S1.wf _ (by omega)) (areaC_64 n y.2.2.1)
      have hK := rdepth_ok (Wt.getD (nbC n y.1 ((y.2.1 + 2) % 4)).1 0) (areaC n (nbC n y.1 ((y.2.1 + 2) % 4)).1) (S1.wf _ (by omega)) (areaC_64 n (nbC n y.1 ((y.2.1 + 2) % 4)).1)
      have hL := rlevel_ok (Be.getD y.1 0) (Wt.getD y.1 0) (areaC n y.1) (S1.wf _ (by omega)) (areaC_64 n y.1)
      have hX := rmax_ok (x := some (Be.getD y.1 0)) (y := some (Be.getD y.2.2.1 0)) (wdF (S0.wf _ (by omega))) (wdF (S0.wf _ (by omega)))
      have aU := fun z => rgarea_ok (hm.app z) (N.more z) hn hn' c1
      have aD := fun z => rgarea_ok (hm.app z) (N.more z) hn hn' c2
      have aK := fun z => rgarea_ok (hm.app z) (N.more z) hn hn' b1
      rw [hv]
      (conv => whnf); repeat ((first | refine br_not (br_yes hgt ?_) | refine SlF.at (S0.app _) (i := y.1) (by omega) rfl ?_ | refine SlF.at (S0.app _) (i := y.2.2.1) (by omega) rfl ?_ | refine SlI.at (S1.app _) (i := y.1) (by omega) rfl ?_ | refine SlI.at (S1.app _) (i := y.2.2.1) (by omega) rfl ?_ | refine SlI.at (S1.app _) (i := (nbC n y.1 ((y.2.1 + 2) % 4)).1) (by omega) rfl ?_ | refine ⟨_, aU _, ?_⟩ | refine ⟨_, aD _, ?_⟩ | refine ⟨_, aK _, ?_⟩ | refine ⟨_, hU _, ?_⟩ | refine ⟨_, hD _, ?_⟩ | refine ⟨_, hK _, ?_⟩ | refine ⟨_, hL _, ?_⟩ | refine ⟨_, hX _, ?_⟩ | refine ⟨_, _, rslope_ok lim (fsub_lt _ _) (fsub_lt _ _) _, ?_⟩ | refine ⟨_, _, rmin_ok (fadd_lt _ _) (fsub_lt _ _) _, ?_⟩ | refine br_d (by omega) ?_ | rw [getB_app0]); conv => whnf)
      refine br_intro (fun hr => ?_) (fun hr => ?_)
      · (conv => whnf)
        refine ⟨?_, _, rfl⟩
        exact congrArg (fun z => F z) (if_pos hr).symm
      · (conv => whnf)
        refine ⟨?_, _, rfl⟩
        exact congrArg (fun z => F z) (if_neg (Bool.eq_false_iff.1 hr)).symm
  · have hgt := lt_no_gt h
    have hv : reconF n lim Be Wt y u = reconW n lim Be Wt y.2.2.1 y.1 (nbC n y.2.2.1 ((y.2.2.2 + 2) % 4)).1 := (if_neg (Bool.eq_false_iff.1 hgt)).trans (if_pos h)
    have hU := rdepth_ok (Wt.getD y.2.2.1 0) (areaC n y.2.2.1) (S1.wf _ (by omega)) (areaC_64 n y.2.2.1)
    have hD := rdepth_ok (Wt.getD y.1 0) (areaC n y.1) (S1.wf _ (by omega)) (areaC_64 n y.1)
    have hK := rdepth_ok (Wt.getD (nbC n y.2.2.1 ((y.2.2.2 + 2) % 4)).1 0) (areaC n (nbC n y.2.2.1 ((y.2.2.2 + 2) % 4)).1) (S1.wf _ (by omega)) (areaC_64 n (nbC n y.2.2.1 ((y.2.2.2 + 2) % 4)).1)
    have hL := rlevel_ok (Be.getD y.2.2.1 0) (Wt.getD y.2.2.1 0) (areaC n y.2.2.1) (S1.wf _ (by omega)) (areaC_64 n y.2.2.1)
    have hX := rmax_ok (x := some (Be.getD y.2.2.1 0)) (y := some (Be.getD y.1 0)) (wdF (S0.wf _ (by omega))) (wdF (S0.wf _ (by omega)))
    have aU := fun z => rgarea_ok (hm.app z) (N.more z) hn hn' c2
    have aD := fun z => rgarea_ok (hm.app z) (N.more z) hn hn' c1
    have aK := fun z => rgarea_ok (hm.app z) (N.more z) hn hn' b2
    rw [hv]
    (conv => whnf); repeat ((first | refine br_not (br_no hgt ?_) | refine br_not (br_yes h ?_) | refine SlF.at (S0.app _) (i := y.2.2.1) (by omega) rfl ?_ | refine SlF.at (S0.app _) (i := y.1) (by omega) rfl ?_ | refine SlI.at (S1.app _) (i := y.2.2.1) (by omega) rfl ?_ | refine SlI.at (S1.app _) (i := y.1) (by omega) rfl ?_ | refine SlI.at (S1.app _) (i := (nbC n y.2.2.1 ((y.2.2.2 + 2) % 4)).1) (by omega) rfl ?_ | refine ⟨_, aU _, ?_⟩ | refine ⟨_, aD _, ?_⟩ | refine ⟨_, aK _, ?_⟩ | refine ⟨_, hU _, ?_⟩ | refine ⟨_, hD _, ?_⟩ | refine ⟨_, hK _, ?_⟩ | refine ⟨_, hL _, ?_⟩ | refine ⟨_, hX _, ?_⟩ | refine ⟨_, _, rslope_ok lim (fsub_lt _ _) (fsub_lt _ _) _, ?_⟩ | refine ⟨_, _, rmin_ok (fadd_lt _ _) (fsub_lt _ _) _, ?_⟩ | refine br_d (by omega) ?_ | rw [getB_app] | rw [getB_app0]); conv => whnf)
    refine br_intro (fun hr => ?_) (fun hr => ?_)
    · (conv => whnf)
      refine ⟨?_, _, rfl⟩
      exact congrArg (fun z => F z) (if_pos hr).symm
    · (conv => whnf)
      refine ⟨?_, _, rfl⟩
      exact congrArg (fun z => F z) (if_neg (Bool.eq_false_iff.1 hr)).symm
end
set_option maxHeartbeats 0 in
theorem depth12_e {M : List Blk} {b n : Nat} (N : Net M b n) {j0 j1 q0 q1 : Nat} {vT vS : V} (o2 : vT.one = true) (o3 : vS.one = true) (sky step lim e : Int) (u : Nat) (he : ¬ (0 ≤ e ∧ e < (edges n).length)) :
    COk Tryz.prog 3 40 [.ptr (b + 1) 0, I lim, seaQ j0 j1 q0 q1 vT vS sky step, I e, F u] M (F 0) M := by
  have hone : allOne [V.sl j0 0 q0, V.sl j1 0 q1, vT, vS, V.int IntKind.i64 sky, I step] = true := by
    simp only [allOne, o2, o3, Bool.and_true, Bool.true_and]
    rfl
  refine COk_quiet Tryz.f40 Tryz.func40 (by kernel_rfl) rfl ?_
  (conv => whnf); repeat ((first | refine br_yes hone ?_ | refine ⟨_, _, edge_no (N.more _) e he, ?_⟩ | refine setB_app ?_ | rw [getB_app] | rw [getB_app0] | refine addB_f2 ?_ | refine addB_f1 ?_ | refine addB_f0 ?_); conv => whnf)
  exact ⟨rfl, _, rfl⟩
set_option maxHeartbeats 0 in
theorem rdepth12_e {M : List Blk} {b n : Nat} (N : RNet M b n) {j0 j1 q0 q1 : Nat} {vT vS : V} (o2 : vT.one = true) (o3 : vS.one = true) (sky step lim e : Int) (u : Nat) (he : ¬ (0 ≤ e ∧ e < (edges n).length)) :
    COk Tryz.prog 3 41 [.ptr (b + 1) 0, I lim, seaQ j0 j1 q0 q1 vT vS sky step, I e, F u] M (F 0) M := by
  have hone : allOne [V.sl j0 0 q0, V.sl j1 0 q1, vT, vS, V.int IntKind.i64 sky, I step] = true := by
    simp only [allOne, o2, o3, Bool.and_true, Bool.true_and]
    rfl
  refine COk_quiet Tryz.f41 Tryz.func41 (by kernel_rfl) rfl ?_
  (conv => whnf); repeat ((first | refine br_yes hone ?_ | refine ⟨_, _, redge_no (N.more _) e he, ?_⟩ | refine setB_app ?_ | rw [getB_app] | refine addB_f1 ?_ | refine addB_f0 ?_); conv => whnf)
  exact ⟨rfl, _, rfl⟩
set_option maxHeartbeats 0 in
theorem depth12_nil {M : List Blk} {j0 j1 q0 q1 : Nat} {vT vS : V} (o2 : vT.one = true) (o3 : vS.one = true) (sky step lim e : Int) (u : Nat) :
    COk Tryz.prog 3 40 [nilP, I lim, seaQ j0 j1 q0 q1 vT vS sky step, I e, F u] M (F 0) M := by
  have hone : allOne [V.sl j0 0 q0, V.sl j1 0 q1, vT, vS, V.int IntKind.i64 sky, I step] = true := by
    simp only [allOne, o2, o3, Bool.and_true, Bool.true_and]
    rfl
  refine COk_quiet Tryz.f40 Tryz.func40 (by kernel_rfl) rfl ?_
  (conv => whnf); repeat ((first | refine br_yes hone ?_ | refine ⟨_, _, nil_edge e _, ?_⟩ | refine setB_app ?_ | rw [getB_app] | rw [getB_app0] | refine addB_f2 ?_ | refine addB_f1 ?_ | refine addB_f0 ?_); conv => whnf)
  exact ⟨rfl, _, rfl⟩
set_option maxHeartbeats 0 in
theorem rdepth12_nil {M : List Blk} {j0 j1 q0 q1 : Nat} {vT vS : V} (o2 : vT.one = true) (o3 : vS.one = true) (sky step lim e : Int) (u : Nat) :
    COk Tryz.prog 3 41 [nilP, I lim, seaQ j0 j1 q0 q1 vT vS sky step, I e, F u] M (F 0) M := by
  have hone : allOne [V.sl j0 0 q0, V.sl j1 0 q1, vT, vS, V.int IntKind.i64 sky, I step] = true := by
    simp only [allOne, o2, o3, Bool.and_true, Bool.true_and]
    rfl
  refine COk_quiet Tryz.f41 Tryz.func41 (by kernel_rfl) rfl ?_
  (conv => whnf); repeat ((first | refine br_yes hone ?_ | refine ⟨_, _, rnil_edge e _, ?_⟩ | refine setB_app ?_ | rw [getB_app] | refine addB_f1 ?_ | refine addB_f0 ?_); conv => whnf)
  exact ⟨rfl, _, rfl⟩
set_option maxHeartbeats 0 in
theorem depth12_l {M : List Blk} {b n : Nat} (N : Net M b n) (hn : 1 ≤ n) (hn' : n ≤ 32) {e : Nat} {y : Ed} (hx : (edges n)[e]? = some y) {j0 j1 q0 q1 : Nat} {vT vS : V} (o2 : vT.one = true) (o3 : vS.one = true) (sky step lim : Int) (u : Nat) (hl : q0 ≠ 6 * (n * n) ∨ q1 ≠ 6 * (n * n)) :
    COk Tryz.prog 3 40 [.ptr (b + 1) 0, I lim, seaQ j0 j1 q0 q1 vT vS sky step, I e, F u] M (F 0) M := by
  have hone : allOne [V.sl j0 0 q0, V.sl j1 0 q1, vT, vS, V.int IntKind.i64 sky, I step] = true := by
    simp only [allOne, o2, o3, Bool.and_true, Bool.true_and]
    rfl
  have hge := fun z => gcells_ok (N.more z)
  by_cases h0 : q0 = 6 * (n * n)
  · have h1 : q1 ≠ 6 * (n * n) := by omega
    subst h0
    refine COk_quiet Tryz.f40 Tryz.func40 (by kernel_rfl) rfl ?_
    (conv => whnf); repeat ((first | refine br_yes hone ?_ | refine ⟨_, _, edge_ok (N.more _) e y hx, ?_⟩ | refine ⟨_, hge _, ?_⟩ | refine br_no (bo_eqn rfl) ?_ | refine br_ne (by omega) ?_ | refine setB_app ?_ | rw [getB_app] | rw [getB_app0] | refine addB_f2 ?_ | refine addB_f1 ?_ | refine addB_f0 ?_); conv => whnf)
    exact ⟨rfl, _, rfl⟩
  · refine COk_quiet Tryz.f40 Tryz.func40 (by kernel_rfl) rfl ?_
    (conv => whnf); repeat ((first | refine br_yes hone ?_ | refine ⟨_, _, edge_ok (N.more _) e y hx, ?_⟩ | refine ⟨_, hge _, ?_⟩ | refine br_ne (by omega) ?_ | refine setB_app ?_ | rw [getB_app] | rw [getB_app0] | refine addB_f2 ?_ | refine addB_f1 ?_ | refine addB_f0 ?_); conv => whnf)
    exact ⟨rfl, _, rfl⟩
set_option maxHeartbeats 0 in
theorem rdepth12_l {M : List Blk} {b n : Nat} (N : RNet M b n) (hn : 1 ≤ n) (hn' : n ≤ 32) {e : Nat} {y : Ed} (hx : (edges n)[e]? = some y) {j0 j1 q0 q1 : Nat} {vT vS : V} (o2 : vT.one = true) (o3 : vS.one = true) (sky step lim : Int) (u : Nat) (hl : q0 ≠ 6 * (n * n) ∨ q1 ≠ 6 * (n * n)) :
    COk Tryz.prog 3 41 [.ptr (b + 1) 0, I lim, seaQ j0 j1 q0 q1 vT vS sky step, I e, F u] M (F 0) M := by
  have hone : allOne [V.sl j0 0 q0, V.sl j1 0 q1, vT, vS, V.int IntKind.i64 sky, I step] = true := by
    simp only [allOne, o2, o3, Bool.and_true, Bool.true_and]
    rfl
  have hge := fun z => rgcells_ok (N.more z) hn hn'
  by_cases h0 : q0 = 6 * (n * n)
  · have h1 : q1 ≠ 6 * (n * n) := by omega
    subst h0
    refine COk_quiet Tryz.f41 Tryz.func41 (by kernel_rfl) rfl ?_
    (conv => whnf); repeat ((first | refine br_yes hone ?_ | refine ⟨_, _, redge_ok (N.more _) e y hx, ?_⟩ | refine ⟨_, hge _, ?_⟩ | refine br_no (bo_eqn rfl) ?_ | refine br_ne (by omega) ?_ | refine setB_app ?_ | rw [getB_app] | rw [getB_app0] | refine addB_f1 ?_ | refine addB_f0 ?_); conv => whnf)
    exact ⟨rfl, _, rfl⟩
  · refine COk_quiet Tryz.f41 Tryz.func41 (by kernel_rfl) rfl ?_
    (conv => whnf); repeat ((first | refine br_yes hone ?_ | refine ⟨_, _, redge_ok (N.more _) e y hx, ?_⟩ | refine ⟨_, hge _, ?_⟩ | refine br_ne (by omega) ?_ | refine setB_app ?_ | rw [getB_app] | rw [getB_app0] | refine addB_f1 ?_ | refine addB_f0 ?_); conv => whnf)
    exact ⟨rfl, _, rfl⟩
end Go.Proofs.YthoofdnnfahhaaaGreatDoor
