/- What the statements of layer 12 ask first. No condition. -/
import Derived.Test.YthoofdnnfahhaaaGreatDoorRc
namespace Go.Proofs.YthoofdnnfahhaaaGreatDoor
open Go Go.Eng
set_option maxRecDepth 100000
set_option linter.unusedSimpArgs false
set_option linter.unusedVariables false

abbrev askL (side lim : Int) (j0 j1 j2 j3 n0 n1 n2 n3 : Nat) (sky step : Int) : List V := [I side, I lim, .sl j0 0 n0, .sl j1 0 n1, .sl j2 0 n2, .sl j3 0 n3, .int .i64 sky, I step]
abbrev askV (side lim : Int) (j0 j1 j2 j3 n0 n1 n2 n3 : Nat) (sky step : Int) : V := .agg (askL side lim j0 j1 j2 j3 n0 n1 n2 n3 sky step)
abbrev one1 : Nat := 4607182418800017408
abbrev ar1 : Int := 1431655765
theorem area1 : ∀ c, c < 6 → areaC 1 c = ar1 := by decide +kernel
abbrev flatW : List Int := [2 * ar1, ar1, ar1, 4 * ar1, ar1, ar1]
abbrev flatV (k : Nat) : V := seaQ (k + 2) (k + 3) 6 6 (.raw (.slice none 0 0)) (.sl (k + 4) 0 12) 0 0
abbrev flatX (k : Nat) (W : List Int) : List Blk := [⟨true, .cells [.int .i64 2, .int .i64 1, .int .i64 1, .int .i64 4, .int .i64 1, .int .i64 1]⟩, ⟨true, .cells [.sl (k + 2) 0 6, .sl (k + 3) 0 6, .raw (.slice none 0 0), .sl (k + 4) 0 12, .int .i64 0, I 0]⟩, ⟨true, .flts (List.replicate 6 0)⟩, ⟨true, .ints .i64 W⟩, ⟨true, .flts (List.replicate 12 0)⟩, ⟨true, .cells [.sl (k + 2) 0 6, .sl (k + 3) 0 6, .raw (.slice none 0 0), .sl (k + 4) 0 12, .int .i64 0, I 0]⟩]
set_option maxHeartbeats 0 in
theorem flat12_ok {M : List Blk} (hsc : scM M.length M = true) {b : Nat} (N : Net M b 1) : COk Tryz.prog 3 108 [.ptr (b + 1) 0, .agg [.int .i64 2, .int .i64 1, .int .i64 1, .int .i64 4, .int .i64 1, .int .i64 1]] M (flatV M.length)
    (M ++ flatX M.length flatW) := by
  have hA : ∀ x c, c < 6 → COk Tryz.prog 3 88 [.ptr (b + 1) 0, I (c : Nat)] (M ++ x) (I ar1) (M ++ x) := fun x c hc => by
    have := area_ok (N.more x) c (by omega)
    rwa [area1 c hc] at this
  refine COk_of_ev Tryz.f108 Tryz.func108 (by kernel_rfl) (by simp) (by simp [V.sc, scL]) (.inr (scM_app (scM_mono (by simp) _ hsc) (by simp [scM, B.sc, scL, V.sc]))) ?_
  (conv => whnf); repeat ((first | refine Or.inl ?_ | refine setB_app ?_ | rw [getB_app] | refine addB_f5 ?_ | refine addB_f4 ?_ | refine addB_f3 ?_ | refine addB_f2 ?_ | refine addB_f1 ?_ | refine addB_f0 ?_); conv => whnf)
  iterate 6
    refine lr ?_
    (conv => whnf); repeat ((first | refine ⟨_, hA _ 0 (by decide), ?_⟩ | refine ⟨_, hA _ 1 (by decide), ?_⟩ | refine ⟨_, hA _ 2 (by decide), ?_⟩ | refine ⟨_, hA _ 3 (by decide), ?_⟩ | refine ⟨_, hA _ 4 (by decide), ?_⟩ | refine ⟨_, hA _ 5 (by decide), ?_⟩ | refine setB_app ?_ | rw [getB_app] | rw [getB_app0]); conv => whnf)
  refine lr ?_
  (conv => whnf); repeat ((first | refine setB_app ?_ | rw [getB_app]); conv => whnf)
  exact ⟨rfl, [], by rw [List.append_nil]; rfl⟩
theorem nb10 : (nbC 1 0 ((0 + 2) % 4)).1 = 3 := by decide
theorem rec12 (lim : Int) (u : Nat) (hu : fgt (some u) (some 0) = true) : reconF 1 lim (List.replicate 6 0) flatW (0, 0, 1, 2) u =
    posF (minO (fadd (depthF (2 * ar1) ar1) (fmul (some halfB) (some (slopeF lim (fsub (depthF (2 * ar1) ar1) (depthF (4 * ar1) ar1)) (fsub (depthF ar1 ar1) (depthF (2 * ar1) ar1)))))) (fsub (some (levelF 0 (2 * ar1) ar1)) (some (maxO (some 0) (some 0))))) := by
  unfold reconF
  rw [if_pos hu]
  unfold reconW slantF gateF dpE
  show posF (minO (fadd (depthF (2 * ar1) (areaC 1 0)) (fmul (some halfB) (some (slopeF lim (fsub (depthF (2 * ar1) (areaC 1 0)) (depthF (flatW.getD (nbC 1 0 ((0 + 2) % 4)).1 0) (areaC 1 (nbC 1 0 ((0 + 2) % 4)).1))) (fsub (depthF ar1 (areaC 1 1)) (depthF (2 * ar1) (areaC 1 0))))))) (fsub (some (levelF 0 (2 * ar1) (areaC 1 0))) (some (maxO (some 0) (some 0))))) = _
  rw [nb10, area1 0 (by decide), area1 1 (by decide), area1 3 (by decide)]
  rfl
theorem rec12_a : reconF 1 0 (List.replicate 6 0) flatW (0, 0, 1, 2) one1 = 4611686018427387904 := (rec12 0 one1 (by decide +kernel)).trans (by decide +kernel)
theorem rec12_b : reconF 1 1 (List.replicate 6 0) flatW (0, 0, 1, 2) one1 = 4609434218613702656 := (rec12 1 one1 (by decide +kernel)).trans (by decide +kernel)
theorem rec12_c : reconF 1 2 (List.replicate 6 0) flatW (0, 0, 1, 2) 4598175219545276416 = one1 := (rec12 2 4598175219545276416 (by decide +kernel)).trans (by decide +kernel)
theorem rec12_d : reconF 1 0 (List.replicate 6 0) flatW (0, 0, 1, 2) 0 = 0 := by
  unfold reconF
  rw [if_neg (by decide +kernel), if_neg (by decide +kernel)]
theorem bits12_ok (x : Nat) (m : List Blk) : COk Tryz.prog 3 42 [F x] m (U x) m := by
  refine COk_quiet Tryz.f42 Tryz.func42 (by kernel_rfl) rfl ?_
  (conv => whnf); repeat (refine ⟨_, _, f64bits_ok _ _, ?_⟩; conv => whnf)
  exact ⟨rfl, [], by simp⟩
set_option maxHeartbeats 0 in
theorem awake12_ok {M : List Blk} (hm : Top M) (hsc : scM M.length M = true) : COk Tryz.prog 3 39 [] M (Bo true) M := by
  obtain ⟨b, M1, hnew, hN, u1⟩ := new_up hm hsc 1 (by omega) (by omega)
  have hflat := flat12_ok u1.sc hN
  have u2 : Up M1 (M1 ++ (flatX M1.length flatW ++ ([⟨true, .cells [.sl (M1.length + 2) 0 6, .sl (M1.length + 3) 0 6, .raw (.slice none 0 0), .sl (M1.length + 4) 0 12, .int .i64 0, I 0]⟩] : List Blk))) := Up.of u1.sc (by simp [scM, B.sc, scL, V.sc])
  have hd := fun lim u => depth12_ok (vT := .raw (.slice none 0 0)) (vS := .sl (M1.length + 4) 0 12) u2.sc (hN.up u2) (SlF.whole (getB_app 2) (show ∀ i, i < (List.replicate 6 0).length → inF ((List.replicate 6 0).getD i 0) from by decide) (by decide)) (SlI.whole (getB_app 3) (show ∀ i, i < flatW.length → in64 (flatW.getD i 0) from by decide) (by decide)) rfl (by simp [V.sc]) rfl rfl 0 0 (by decide) edges1.2 rfl rfl lim u
  have ha := hd 0 one1
  have hb := hd 1 one1
  have hc := hd 2 4598175219545276416
  have hz := hd 0 0
  rw [rec12_a] at ha
  rw [rec12_b] at hb
  rw [rec12_c] at hc
  rw [rec12_d] at hz
  refine COk_quiet Tryz.f39 Tryz.func39 (by kernel_rfl) rfl ?_
  (conv => whnf); repeat ((first | refine ⟨_, _, hnew, ?_⟩ | refine ⟨_, _, hflat, ?_⟩ | refine ⟨_, _, ha, ?_⟩ | refine ⟨_, _, hb, ?_⟩ | refine ⟨_, _, hc, ?_⟩ | refine ⟨_, _, hz, ?_⟩ | refine ⟨_, _, bits12_ok _ _, ?_⟩ | refine setB_app ?_ | rw [getB_app] | refine addB_f6 ?_); conv => whnf)
  exact ⟨rfl, u1.app _⟩
end Go.Proofs.YthoofdnnfahhaaaGreatDoor
