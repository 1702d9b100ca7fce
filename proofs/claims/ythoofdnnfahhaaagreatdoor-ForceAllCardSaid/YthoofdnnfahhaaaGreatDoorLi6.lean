/- What the statements of layer 16 ask first. No condition. -/
import Derived.Test.YthoofdnnfahhaaaGreatDoorLk
import Derived.Test.YthoofdnnfahhaaaGreatDoorLw
namespace Go.Proofs.YthoofdnnfahhaaaGreatDoor
open Go Go.Eng
set_option maxRecDepth 100000
set_option linter.unusedSimpArgs false
set_option linter.unusedVariables false

theorem lake_sea {M : List Blk} {j0 j1 j2 j3 : Nat} {be : List Nat} {wt : List Int} (h0 : getB M j0 = ⟨true, .flts be⟩) (h1 : getB M j1 = ⟨true, .ints .i64 wt⟩) (h2 : getB M j2 = ⟨true, .ints .i64 lakeT⟩) (h3 : getB M j3 = ⟨true, .flts lakeS⟩)
    (k0 : be.length = 6) (k1 : wt.length = 6) (f0 : ∀ i, i < 6 → inF (be.getD i 0)) (f1 : ∀ i, i < 6 → in64 (wt.getD i 0)) : SeaR M j0 j1 j2 j3 be wt lakeT lakeS :=
  ⟨SlF.whole h0 (by rw [k0]; exact f0) (by omega), SlI.whole h1 (by rw [k1]; exact f1) (by omega), SlI.whole h2 (by decide) (by decide), SlF.whole h3 (by decide) (by decide)⟩
abbrev lakeP : PlF := ⟨halfB, oneW, 0⟩
theorem lk1 (be : List Nat) (wt : List Int) (c : Nat) (hc : c < 6) : lk 1 be wt c = ⟨be.getD c 0, depthF (wt.getD c 0) ar1, levelF (be.getD c 0) (wt.getD c 0) ar1, decide (wt.getD c 0 > 0)⟩ := by
  rw [lk, area1 c hc]
theorem gap_at {e : Nat} {x : Ed} (h : (edges 1)[e]? = some x) : gpE 1 x = gp1 := gap1 x (List.mem_of_getElem? h)
abbrev w3 : Nat := 4613937818241073152
abbrev lakeB' : List Nat := lakeB.set 0 w3
abbrev lakeW' : List Int := lakeW.set 0 0
theorem edge1_0 : (edges 1)[0]? = some (0, 0, 1, 2) := by decide
theorem edge1_1 : (edges 1)[1]? = some (0, 1, 4, 3) := by decide
theorem edge1_4 : (edges 1)[4]? = some (1, 0, 2, 2) := by decide
theorem sp1_0 : flt (some (speedT 1 lakeP lakeB lakeW lakeS 0)) (some 0) = true := by
  rw [speedT_at edge1_0, speedE, gap_at edge1_0, lk1 _ _ _ (by decide), lk1 _ _ _ (by decide)]
  decide +kernel
theorem sp1_1 : speedT 1 lakeP lakeB lakeW lakeS 1 = 0 := by
  rw [speedT_at edge1_1, speedE, gap_at edge1_1, lk1 _ _ _ (by decide), lk1 _ _ _ (by decide)]
  decide +kernel
theorem op1_0 : openL (lk 1 lakeB' lakeW' 0) (lk 1 lakeB' lakeW' 1) = false := by
  rw [lk1 _ _ _ (by decide), lk1 _ _ _ (by decide)]
  decide +kernel
theorem op1_4 : openL (lk 1 lakeB' lakeW' 1) (lk 1 lakeB' lakeW' 2) = true := by
  rw [lk1 _ _ _ (by decide), lk1 _ _ _ (by decide)]
  decide +kernel
theorem lakeFit (be : List Nat) (wt : List Int) (k0 : be.length = 6) (k1 : wt.length = 6) : Fit 1 be.length wt.length lakeT.length lakeS.length :=
  ⟨k0, k1, rfl, len1.symm⟩
set_option maxHeartbeats 0 in
theorem lives16_at {M : List Blk} (hsc : scM M.length M = true) {b : Nat} (N : Net M b 1) : ∃ (G : Nat → Nat), flt (some (G 0)) (some 0) = true ∧ G 1 = 0 ∧
    COk Tryz.prog 3 51 [.ptr (b + 1) 0, planV 1 lakeP 0 false none 0 0, seaV (M.length + 1) (M.length + 2) (M.length + 3) (M.length + 4) 6 6 6 12 0 0] (M ++ ([⟨true, .cells [.sl (M.length + 1) 0 6, .sl (M.length + 2) 0 6, .sl (M.length + 3) 0 6, .sl (M.length + 4) 0 12, .int .i64 0, I 0]⟩, ⟨true, .flts lakeB⟩, ⟨true, .ints .i64 lakeW⟩, ⟨true, .ints .i64 lakeT⟩, ⟨true, .flts lakeS⟩, ⟨true, .cells [.sl (M.length + 1) 0 6, .sl (M.length + 2) 0 6, .sl (M.length + 3) 0 6, .sl (M.length + 4) 0 12, .int .i64 0, I 0]⟩, ⟨true, .cells [.sl (M.length + 1) 0 6, .sl (M.length + 2) 0 6, .sl (M.length + 3) 0 6, .sl (M.length + 4) 0 12, .int .i64 0, I 0]⟩] : List Blk)) (.tup [.sl (M.length + 9) 0 12, I 0]) (M ++ ([⟨true, .cells [.sl (M.length + 1) 0 6, .sl (M.length + 2) 0 6, .sl (M.length + 3) 0 6, .sl (M.length + 4) 0 12, .int .i64 0, I 0]⟩, ⟨true, .flts lakeB⟩, ⟨true, .ints .i64 lakeW⟩, ⟨true, .ints .i64 lakeT⟩, ⟨true, .flts lakeS⟩, ⟨true, .cells [.sl (M.length + 1) 0 6, .sl (M.length + 2) 0 6, .sl (M.length + 3) 0 6, .sl (M.length + 4) 0 12, .int .i64 0, I 0]⟩, ⟨true, .cells [.sl (M.length + 1) 0 6, .sl (M.length + 2) 0 6, .sl (M.length + 3) 0 6, .sl (M.length + 4) 0 12, .int .i64 0, I 0]⟩, ⟨true, .cells [I 1, F halfB, F oneW, F 0, I 0, Bo false, .raw (.slice none 0 0)]⟩, ⟨true, .cells [.sl (M.length + 1) 0 6, .sl (M.length + 2) 0 6, .sl (M.length + 3) 0 6, .sl (M.length + 4) 0 12, .int .i64 0, I 0]⟩, ⟨true, .flts (tab 12 G)⟩] : List Blk)) ∧
    COk Tryz.prog 3 52 [.ptr (b + 1) 0, seaV (M.length + 1) (M.length + 2) (M.length + 3) (M.length + 4) 6 6 6 12 0 0, I 0] (M ++ ([⟨true, .cells [.sl (M.length + 1) 0 6, .sl (M.length + 2) 0 6, .sl (M.length + 3) 0 6, .sl (M.length + 4) 0 12, .int .i64 0, I 0]⟩, ⟨true, .flts lakeB'⟩, ⟨true, .ints .i64 lakeW'⟩, ⟨true, .ints .i64 lakeT⟩, ⟨true, .flts lakeS⟩, ⟨true, .cells [.sl (M.length + 1) 0 6, .sl (M.length + 2) 0 6, .sl (M.length + 3) 0 6, .sl (M.length + 4) 0 12, .int .i64 0, I 0]⟩, ⟨true, .cells [.sl (M.length + 1) 0 6, .sl (M.length + 2) 0 6, .sl (M.length + 3) 0 6, .sl (M.length + 4) 0 12, .int .i64 0, I 0]⟩, ⟨true, .cells [I 1, F halfB, F oneW, F 0, I 0, Bo false, .raw (.slice none 0 0)]⟩, ⟨true, .cells [.sl (M.length + 1) 0 6, .sl (M.length + 2) 0 6, .sl (M.length + 3) 0 6, .sl (M.length + 4) 0 12, .int .i64 0, I 0]⟩, ⟨true, .flts (tab 12 G)⟩] : List Blk)) (Bo false) (M ++ ([⟨true, .cells [.sl (M.length + 1) 0 6, .sl (M.length + 2) 0 6, .sl (M.length + 3) 0 6, .sl (M.length + 4) 0 12, .int .i64 0, I 0]⟩, ⟨true, .flts lakeB'⟩, ⟨true, .ints .i64 lakeW'⟩, ⟨true, .ints .i64 lakeT⟩, ⟨true, .flts lakeS⟩, ⟨true, .cells [.sl (M.length + 1) 0 6, .sl (M.length + 2) 0 6, .sl (M.length + 3) 0 6, .sl (M.length + 4) 0 12, .int .i64 0, I 0]⟩, ⟨true, .cells [.sl (M.length + 1) 0 6, .sl (M.length + 2) 0 6, .sl (M.length + 3) 0 6, .sl (M.length + 4) 0 12, .int .i64 0, I 0]⟩, ⟨true, .cells [I 1, F halfB, F oneW, F 0, I 0, Bo false, .raw (.slice none 0 0)]⟩, ⟨true, .cells [.sl (M.length + 1) 0 6, .sl (M.length + 2) 0 6, .sl (M.length + 3) 0 6, .sl (M.length + 4) 0 12, .int .i64 0, I 0]⟩, ⟨true, .flts (tab 12 G)⟩] : List Blk)) ∧
    COk Tryz.prog 3 52 [.ptr (b + 1) 0, seaV (M.length + 1) (M.length + 2) (M.length + 3) (M.length + 4) 6 6 6 12 0 0, I 4] (M ++ ([⟨true, .cells [.sl (M.length + 1) 0 6, .sl (M.length + 2) 0 6, .sl (M.length + 3) 0 6, .sl (M.length + 4) 0 12, .int .i64 0, I 0]⟩, ⟨true, .flts lakeB'⟩, ⟨true, .ints .i64 lakeW'⟩, ⟨true, .ints .i64 lakeT⟩, ⟨true, .flts lakeS⟩, ⟨true, .cells [.sl (M.length + 1) 0 6, .sl (M.length + 2) 0 6, .sl (M.length + 3) 0 6, .sl (M.length + 4) 0 12, .int .i64 0, I 0]⟩, ⟨true, .cells [.sl (M.length + 1) 0 6, .sl (M.length + 2) 0 6, .sl (M.length + 3) 0 6, .sl (M.length + 4) 0 12, .int .i64 0, I 0]⟩, ⟨true, .cells [I 1, F halfB, F oneW, F 0, I 0, Bo false, .raw (.slice none 0 0)]⟩, ⟨true, .cells [.sl (M.length + 1) 0 6, .sl (M.length + 2) 0 6, .sl (M.length + 3) 0 6, .sl (M.length + 4) 0 12, .int .i64 0, I 0]⟩, ⟨true, .flts (tab 12 G)⟩] : List Blk)) (Bo true) (M ++ ([⟨true, .cells [.sl (M.length + 1) 0 6, .sl (M.length + 2) 0 6, .sl (M.length + 3) 0 6, .sl (M.length + 4) 0 12, .int .i64 0, I 0]⟩, ⟨true, .flts lakeB'⟩, ⟨true, .ints .i64 lakeW'⟩, ⟨true, .ints .i64 lakeT⟩, ⟨true, .flts lakeS⟩, ⟨true, .cells [.sl (M.length + 1) 0 6, .sl (M.length + 2) 0 6, .sl (M.length + 3) 0 6, .sl (M.length + 4) 0 12, .int .i64 0, I 0]⟩, ⟨true, .cells [.sl (M.length + 1) 0 6, .sl (M.length + 2) 0 6, .sl (M.length + 3) 0 6, .sl (M.length + 4) 0 12, .int .i64 0, I 0]⟩, ⟨true, .cells [I 1, F halfB, F oneW, F 0, I 0, Bo false, .raw (.slice none 0 0)]⟩, ⟨true, .cells [.sl (M.length + 1) 0 6, .sl (M.length + 2) 0 6, .sl (M.length + 3) 0 6, .sl (M.length + 4) 0 12, .int .i64 0, I 0]⟩, ⟨true, .flts (tab 12 G)⟩] : List Blk)) := by
  refine ⟨speedT 1 lakeP lakeB lakeW lakeS, sp1_0, sp1_1, ?_, ?_, ?_⟩
  · have S : SeaR (M ++ ([⟨true, .cells [.sl (M.length + 1) 0 6, .sl (M.length + 2) 0 6, .sl (M.length + 3) 0 6, .sl (M.length + 4) 0 12, .int .i64 0, I 0]⟩, ⟨true, .flts lakeB⟩, ⟨true, .ints .i64 lakeW⟩, ⟨true, .ints .i64 lakeT⟩, ⟨true, .flts lakeS⟩, ⟨true, .cells [.sl (M.length + 1) 0 6, .sl (M.length + 2) 0 6, .sl (M.length + 3) 0 6, .sl (M.length + 4) 0 12, .int .i64 0, I 0]⟩, ⟨true, .cells [.sl (M.length + 1) 0 6, .sl (M.length + 2) 0 6, .sl (M.length + 3) 0 6, .sl (M.length + 4) 0 12, .int .i64 0, I 0]⟩] : List Blk)) (M.length + 1) (M.length + 2) (M.length + 3) (M.length + 4) lakeB lakeW lakeT lakeS := lake_sea (getB_app 1) (getB_app 2) (getB_app 3) (getB_app 4) rfl rfl (by decide) (by decide)
    have hl : scM (M ++ ([⟨true, .cells [.sl (M.length + 1) 0 6, .sl (M.length + 2) 0 6, .sl (M.length + 3) 0 6, .sl (M.length + 4) 0 12, .int .i64 0, I 0]⟩, ⟨true, .flts lakeB⟩, ⟨true, .ints .i64 lakeW⟩, ⟨true, .ints .i64 lakeT⟩, ⟨true, .flts lakeS⟩, ⟨true, .cells [.sl (M.length + 1) 0 6, .sl (M.length + 2) 0 6, .sl (M.length + 3) 0 6, .sl (M.length + 4) 0 12, .int .i64 0, I 0]⟩, ⟨true, .cells [.sl (M.length + 1) 0 6, .sl (M.length + 2) 0 6, .sl (M.length + 3) 0 6, .sl (M.length + 4) 0 12, .int .i64 0, I 0]⟩] : List Blk)).length (M ++ ([⟨true, .cells [.sl (M.length + 1) 0 6, .sl (M.length + 2) 0 6, .sl (M.length + 3) 0 6, .sl (M.length + 4) 0 12, .int .i64 0, I 0]⟩, ⟨true, .flts lakeB⟩, ⟨true, .ints .i64 lakeW⟩, ⟨true, .ints .i64 lakeT⟩, ⟨true, .flts lakeS⟩, ⟨true, .cells [.sl (M.length + 1) 0 6, .sl (M.length + 2) 0 6, .sl (M.length + 3) 0 6, .sl (M.length + 4) 0 12, .int .i64 0, I 0]⟩, ⟨true, .cells [.sl (M.length + 1) 0 6, .sl (M.length + 2) 0 6, .sl (M.length + 3) 0 6, .sl (M.length + 4) 0 12, .int .i64 0, I 0]⟩] : List Blk)) = true := scM_app (scM_mono (by simp) _ hsc) (by simp [scM, B.sc, scL, V.sc])
    have := (Speeds_at hl (N.more _) S 0 0 (lakeFit _ _ rfl rfl) (by decide) (by decide) 1 lakeP 0 false none 0 0).1
    rw [List.append_assoc] at this
    rw [show ∀ l : List Blk, (M ++ l).length = M.length + l.length from fun l => List.length_append] at this
    exact this
  · have S : SeaR (M ++ ([⟨true, .cells [.sl (M.length + 1) 0 6, .sl (M.length + 2) 0 6, .sl (M.length + 3) 0 6, .sl (M.length + 4) 0 12, .int .i64 0, I 0]⟩, ⟨true, .flts lakeB'⟩, ⟨true, .ints .i64 lakeW'⟩, ⟨true, .ints .i64 lakeT⟩, ⟨true, .flts lakeS⟩, ⟨true, .cells [.sl (M.length + 1) 0 6, .sl (M.length + 2) 0 6, .sl (M.length + 3) 0 6, .sl (M.length + 4) 0 12, .int .i64 0, I 0]⟩, ⟨true, .cells [.sl (M.length + 1) 0 6, .sl (M.length + 2) 0 6, .sl (M.length + 3) 0 6, .sl (M.length + 4) 0 12, .int .i64 0, I 0]⟩, ⟨true, .cells [I 1, F halfB, F oneW, F 0, I 0, Bo false, .raw (.slice none 0 0)]⟩, ⟨true, .cells [.sl (M.length + 1) 0 6, .sl (M.length + 2) 0 6, .sl (M.length + 3) 0 6, .sl (M.length + 4) 0 12, .int .i64 0, I 0]⟩, ⟨true, .flts (tab 12 (speedT 1 lakeP lakeB lakeW lakeS))⟩] : List Blk)) (M.length + 1) (M.length + 2) (M.length + 3) (M.length + 4) lakeB' lakeW' lakeT lakeS := lake_sea (getB_app 1) (getB_app 2) (getB_app 3) (getB_app 4) rfl rfl (by decide) (by decide)
    have := Open_ok (N.more _) S 0 0 (lakeFit _ _ rfl rfl) (by decide) edge1_0
    rw [op1_0] at this
    exact this
  · have S : SeaR (M ++ ([⟨true, .cells [.sl (M.length + 1) 0 6, .sl (M.length + 2) 0 6, .sl (M.length + 3) 0 6, .sl (M.length + 4) 0 12, .int .i64 0, I 0]⟩, ⟨true, .flts lakeB'⟩, ⟨true, .ints .i64 lakeW'⟩, ⟨true, .ints .i64 lakeT⟩, ⟨true, .flts lakeS⟩, ⟨true, .cells [.sl (M.length + 1) 0 6, .sl (M.length + 2) 0 6, .sl (M.length + 3) 0 6, .sl (M.length + 4) 0 12, .int .i64 0, I 0]⟩, ⟨true, .cells [.sl (M.length + 1) 0 6, .sl (M.length + 2) 0 6, .sl (M.length + 3) 0 6, .sl (M.length + 4) 0 12, .int .i64 0, I 0]⟩, ⟨true, .cells [I 1, F halfB, F oneW, F 0, I 0, Bo false, .raw (.slice none 0 0)]⟩, ⟨true, .cells [.sl (M.length + 1) 0 6, .sl (M.length + 2) 0 6, .sl (M.length + 3) 0 6, .sl (M.length + 4) 0 12, .int .i64 0, I 0]⟩, ⟨true, .flts (tab 12 (speedT 1 lakeP lakeB lakeW lakeS))⟩] : List Blk)) (M.length + 1) (M.length + 2) (M.length + 3) (M.length + 4) lakeB' lakeW' lakeT lakeS := lake_sea (getB_app 1) (getB_app 2) (getB_app 3) (getB_app 4) rfl rfl (by decide) (by decide)
    have := Open_ok (N.more _) S 0 0 (lakeFit _ _ rfl rfl) (by decide) edge1_4
    rw [op1_4] at this
    exact this
set_option maxHeartbeats 0 in
theorem lives16_ok {M : List Blk} (hm : Top M) (hsc : scM M.length M = true) : COk Tryz.prog 3 50 [] M (Bo true) M := by
  obtain ⟨b, M1, hnew, hN, u1⟩ := new_up hm hsc 1 (by omega) (by omega)
  obtain ⟨G, g0, g1, hsp, ho, ho'⟩ := lives16_at u1.sc hN
  have hlake := lake16_ok u1.sc hN
  have hsame : ∀ m, COk Tryz.prog 3 20 [F ((tab 12 G).getD (0 + 1 * 1) 0), F 0] m (Bo true) m := fun m => by
    have e : (tab 12 G).getD (0 + 1 * 1) 0 = 0 := by rw [tab_get (by decide)]; exact g1
    rw [e]; exact same_ok 0 0 m
  have g0' : flt (some ((tab 12 G).getD (0 + 0 * 1) 0)) (some 0) = true := by rw [tab_get (by decide)]; exact g0
  refine COk_quiet Tryz.f50 Tryz.func50 (by kernel_rfl) rfl ?_
  (conv => whnf); repeat ((first | refine ⟨_, _, hnew, ?_⟩ | refine ⟨_, _, hlake, ?_⟩ | refine ⟨_, _, hsp, ?_⟩ | refine ⟨_, _, hsame _, ?_⟩ | refine br_yes g0' ?_ | refine ⟨_, _, ho, ?_⟩ | refine ⟨_, _, ho', ?_⟩ | refine setB_app ?_ | rw [getB_app] | refine addB_f6 ?_); conv => whnf)
  exact ⟨rfl, u1.app _⟩
end Go.Proofs.YthoofdnnfahhaaaGreatDoor
