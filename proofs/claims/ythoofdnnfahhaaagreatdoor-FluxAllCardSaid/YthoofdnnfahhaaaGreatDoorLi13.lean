/- What the statements of layer 13 ask first. No condition. -/
import Derived.Test.YthoofdnnfahhaaaGreatDoorLk13
import Derived.Test.YthoofdnnfahhaaaGreatDoorLw13
import Derived.Test.YthoofdnnfahhaaaGreatDoorFx
import Derived.Test.YthoofdnnfahhaaaGreatDoorFq
namespace Go.Proofs.YthoofdnnfahhaaaGreatDoor
open Go Go.Eng
set_option maxRecDepth 100000
set_option linter.unusedSimpArgs false
set_option linter.unusedVariables false

abbrev oneF : Nat := 4607182418800017408
abbrev lakeS' : List Nat := lakeS.set 0 oneF
abbrev dtF : Nat := 4472074429978902528
theorem qa : quantF oneF 4609434218613702656 oneF dtF = 2 := by decide +kernel
theorem qb : quantF oneF 4612811918334230528 oneF dtF = 2 := by decide +kernel
theorem qc : quantF 13830554455654793216 4612811918334230528 oneF dtF = -2 := by decide +kernel
theorem ed1_0 : (edges 1)[0]? = some (0, 0, 1, 2) := by decide
theorem ed1_1 : (edges 1)[1]? = some (0, 1, 4, 3) := by decide
theorem fl1_1 : fluxT 1 0 halfB lakeB lakeW lakeS' 1 = 0 := by
  rw [fluxT_at ed1_1, fluxE]
  have : reconF 1 0 lakeB lakeW (0, 1, 4, 3) (lakeS'.getD 1 0) = 0 := by
    unfold reconF
    rw [if_neg (by decide +kernel), if_neg (by decide +kernel)]
  rw [this]
  generalize lnE 1 (0, 1, 4, 3) = l
  have hz : Zn (quantO (lakeS'.getD 1 0) 0 l halfB) := by
    unfold quantO
    have h0 : Zn (fmul (some (lakeS'.getD 1 0)) (some 0)) := Zn_mul _ (zero_of (by decide) (by decide +kernel))
    have c : ∀ x y, Zn x → Zn (fmul x y) := fun x y h => by
      have : fmul x y = fmul y x := by
        cases x <;> cases y <;> first | rfl | (rw [fmul_is, fmul_is, product_comm])
      rw [this]; exact Zn_mul _ h
    exact c _ _ (c _ _ (c _ _ h0))
  unfold quantF
  rcases hz with h | ⟨s, h⟩
  · rw [h]; rfl
  · rw [h]; cases s <;> decide +kernel
theorem fl1_0 : fluxT 1 0 halfB lakeB lakeW lakeS' 0 > 0 := by decide +kernel
abbrev lakeQ : PlF := ⟨halfB, oneF, 0⟩
set_option maxHeartbeats 0 in
theorem lives13_at {M : List Blk} (hsc : scM M.length M = true) {b : Nat} (N : Net M b 1) : ∃ (G : Nat → Int), G 0 > 0 ∧ G 1 = 0 ∧
    COk Tryz.prog 3 61 [.ptr (b + 1) 0, planV 1 lakeQ 0 false none 0 0, seaV (M.length + 1) (M.length + 2) (M.length + 3) (M.length + 4) 6 6 6 12 0 0] (M ++ ([⟨true, .cells [.sl (M.length + 1) 0 6, .sl (M.length + 2) 0 6, .sl (M.length + 3) 0 6, .sl (M.length + 4) 0 12, .int .i64 0, I 0]⟩, ⟨true, .flts lakeB⟩, ⟨true, .ints .i64 lakeW⟩, ⟨true, .ints .i64 lakeT⟩, ⟨true, .flts lakeS'⟩, ⟨true, .cells [.sl (M.length + 1) 0 6, .sl (M.length + 2) 0 6, .sl (M.length + 3) 0 6, .sl (M.length + 4) 0 12, .int .i64 0, I 0]⟩, ⟨true, .cells [.sl (M.length + 1) 0 6, .sl (M.length + 2) 0 6, .sl (M.length + 3) 0 6, .sl (M.length + 4) 0 12, .int .i64 0, I 0]⟩] : List Blk)) (.tup [.sl (M.length + 9) 0 12, I 0]) (M ++ ([⟨true, .cells [.sl (M.length + 1) 0 6, .sl (M.length + 2) 0 6, .sl (M.length + 3) 0 6, .sl (M.length + 4) 0 12, .int .i64 0, I 0]⟩, ⟨true, .flts lakeB⟩, ⟨true, .ints .i64 lakeW⟩, ⟨true, .ints .i64 lakeT⟩, ⟨true, .flts lakeS'⟩, ⟨true, .cells [.sl (M.length + 1) 0 6, .sl (M.length + 2) 0 6, .sl (M.length + 3) 0 6, .sl (M.length + 4) 0 12, .int .i64 0, I 0]⟩, ⟨true, .cells [.sl (M.length + 1) 0 6, .sl (M.length + 2) 0 6, .sl (M.length + 3) 0 6, .sl (M.length + 4) 0 12, .int .i64 0, I 0]⟩, ⟨true, .cells [I 1, F halfB, F oneF, F 0, I 0, Bo false, .raw (.slice none 0 0)]⟩, ⟨true, .cells [.sl (M.length + 1) 0 6, .sl (M.length + 2) 0 6, .sl (M.length + 3) 0 6, .sl (M.length + 4) 0 12, .int .i64 0, I 0]⟩, ⟨true, .ints .i64 (tab 12 G)⟩] : List Blk)) := by
  refine ⟨fluxT 1 0 halfB lakeB lakeW lakeS', fl1_0, fl1_1, ?_⟩
  have S : SeaR (M ++ ([⟨true, .cells [.sl (M.length + 1) 0 6, .sl (M.length + 2) 0 6, .sl (M.length + 3) 0 6, .sl (M.length + 4) 0 12, .int .i64 0, I 0]⟩, ⟨true, .flts lakeB⟩, ⟨true, .ints .i64 lakeW⟩, ⟨true, .ints .i64 lakeT⟩, ⟨true, .flts lakeS'⟩, ⟨true, .cells [.sl (M.length + 1) 0 6, .sl (M.length + 2) 0 6, .sl (M.length + 3) 0 6, .sl (M.length + 4) 0 12, .int .i64 0, I 0]⟩, ⟨true, .cells [.sl (M.length + 1) 0 6, .sl (M.length + 2) 0 6, .sl (M.length + 3) 0 6, .sl (M.length + 4) 0 12, .int .i64 0, I 0]⟩] : List Blk)) (M.length + 1) (M.length + 2) (M.length + 3) (M.length + 4) lakeB lakeW lakeT lakeS' :=
    ⟨SlF.whole (getB_app 1) (by decide) (by decide), SlI.whole (getB_app 2) (by decide) (by decide), SlI.whole (getB_app 3) (by decide) (by decide), SlF.whole (getB_app 4) (by decide) (by decide)⟩
  have hl : scM (M ++ ([⟨true, .cells [.sl (M.length + 1) 0 6, .sl (M.length + 2) 0 6, .sl (M.length + 3) 0 6, .sl (M.length + 4) 0 12, .int .i64 0, I 0]⟩, ⟨true, .flts lakeB⟩, ⟨true, .ints .i64 lakeW⟩, ⟨true, .ints .i64 lakeT⟩, ⟨true, .flts lakeS'⟩, ⟨true, .cells [.sl (M.length + 1) 0 6, .sl (M.length + 2) 0 6, .sl (M.length + 3) 0 6, .sl (M.length + 4) 0 12, .int .i64 0, I 0]⟩, ⟨true, .cells [.sl (M.length + 1) 0 6, .sl (M.length + 2) 0 6, .sl (M.length + 3) 0 6, .sl (M.length + 4) 0 12, .int .i64 0, I 0]⟩] : List Blk)).length (M ++ ([⟨true, .cells [.sl (M.length + 1) 0 6, .sl (M.length + 2) 0 6, .sl (M.length + 3) 0 6, .sl (M.length + 4) 0 12, .int .i64 0, I 0]⟩, ⟨true, .flts lakeB⟩, ⟨true, .ints .i64 lakeW⟩, ⟨true, .ints .i64 lakeT⟩, ⟨true, .flts lakeS'⟩, ⟨true, .cells [.sl (M.length + 1) 0 6, .sl (M.length + 2) 0 6, .sl (M.length + 3) 0 6, .sl (M.length + 4) 0 12, .int .i64 0, I 0]⟩, ⟨true, .cells [.sl (M.length + 1) 0 6, .sl (M.length + 2) 0 6, .sl (M.length + 3) 0 6, .sl (M.length + 4) 0 12, .int .i64 0, I 0]⟩] : List Blk)) = true := scM_app (scM_mono (by simp) _ hsc) (by simp [scM, B.sc, scL, V.sc])
  have := All_at hl (N.more _) S 0 0 ⟨rfl, rfl, rfl, len1.symm⟩ (by decide) (by decide) 1 lakeQ 0 false none 0 0
  rw [List.append_assoc] at this
  rw [show ∀ l : List Blk, (M ++ l).length = M.length + l.length from fun l => List.length_append] at this
  exact this
set_option maxHeartbeats 0 in
theorem lives13_ok {M : List Blk} (hm : Top M) (hsc : scM M.length M = true) : COk Tryz.prog 3 60 [] M (Bo true) M := by
  obtain ⟨b, M1, hnew, hN, u1⟩ := new_up hm hsc 1 (by omega) (by omega)
  obtain ⟨G, g0, g1, hal⟩ := lives13_at u1.sc hN
  have hlake := lake13_ok u1.sc hN
  have hqa := fun m => quanta_ok oneF 4609434218613702656 oneF dtF m
  have hqb := fun m => quanta_ok oneF 4612811918334230528 oneF dtF m
  have hqc := fun m => quanta_ok 13830554455654793216 4612811918334230528 oneF dtF m
  rw [qa] at hqa
  rw [qb] at hqb
  rw [qc] at hqc
  have k0 : (tab 12 G).getD (0 + 0 * 1) 0 > 0 := by rw [tab_get (by decide)]; exact g0
  have k1 : (tab 12 G).getD (0 + 1 * 1) 0 = 0 := by rw [tab_get (by decide)]; exact g1
  refine COk_quiet Tryz.f60 Tryz.func60 (by kernel_rfl) rfl ?_
  (conv => whnf); repeat ((first | refine ⟨_, _, hnew, ?_⟩ | refine ⟨_, _, hlake, ?_⟩ | refine ⟨_, _, hal, ?_⟩ | refine ⟨_, _, hqa _, ?_⟩ | refine ⟨_, _, hqb _, ?_⟩ | refine ⟨_, _, hqc _, ?_⟩ | refine br_d k0 ?_ | refine setB_app ?_ | rw [getB_app] | refine addB_f6 ?_); conv => whnf)
  exact ⟨congrArg V.bool (show (((tab 12 G).getD (0 + 1 * 1) 0) == 0) = true from by rw [k1]; rfl), u1.app _⟩
end Go.Proofs.YthoofdnnfahhaaaGreatDoor
