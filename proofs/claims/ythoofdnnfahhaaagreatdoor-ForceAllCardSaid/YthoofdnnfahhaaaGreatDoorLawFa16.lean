/- Speeds, and Speed and Open of every edge, of every net, plan and raw sea are what the document says. The card of ForceAll holds: at every input the law says 'true' and its arguments stay as they were. Conditions: those that the given statement itself names (the two tables laid), and none of our own. -/
import Derived.Test.YthoofdnnfahhaaaGreatDoorQw
import Derived.Test.YthoofdnnfahhaaaGreatDoorFa16
import Derived.Test.YthoofdnnfahhaaaGreatDoorTie
import Derived.Test.YthoofdnnfahhaaaGreatDoorCards
import Derived.SevenTiedAt
namespace Go.Proofs.YthoofdnnfahhaaaGreatDoor
open Go Go.Eng Go.ChangeShapes Go.WideShapes Go.RowKit
set_option maxRecDepth 100000
set_option linter.unusedSimpArgs false
set_option linter.unusedVariables false

set_option maxHeartbeats 0 in
theorem forceAll_lifted (os : Os) (started : os.Started) (H : Type) (enc : TypeId × Value → H) :
    ReturnsInHanded {} Tryz.checked os 9 .any (fun w args => (Rows.forceAllSpec.pre enc Tryz.prog Tryz.f9 [] false w args ∧ laidMetH Tryz.prog laid2 w) ∧ sizedMet enc Tryz.prog Tryz.f9 (OpenSpec.ofChange Rows.forceAllSpec) false w args) (Rows.forceAllSpec.post enc Tryz.prog Tryz.f9 false true false false) := by
  have hpar : Tryz.f9.params = #[3, 85, 58, 3] := Tryz.params9
  have u3 : Tryz.prog.underlying 3 = some (.int .i64) := by kernel_rfl
  have u2 : Tryz.prog.underlying 2 = some (.int .i64) := by kernel_rfl
  have uE : Tryz.prog.underlying 26 = some (.float .f64) := by kernel_rfl
  obtain ⟨fsS, uS, _⟩ := under_sea
  obtain ⟨fsP, uP, _⟩ := under_plan
  refine law_sized Tryz.f9 Rows.forceAllSpec os started Tryz.func9 (by kernel_rfl) (by kernel_rfl) rfl (by kernel_rfl) ?_ ?_
    (ChangeSpec.witness_shaped (enc := enc) (C := Tryz.checked) (os := os) (X := fun w _ => laidMetH Tryz.prog laid2 w) false (World.doorLaid Tryz.prog 400 os) #[.int .i64 0, .agg #[.int .i64 0, .float .f64 0, .float .f64 0, .float .f64 0, .int .i64 0, .bool false, .slice none 0 0], .agg #[.slice none 0 0, .slice none 0 0, .slice none 0 0, .slice none 0 0, .int .i64 0, .int .i64 0], .int .i64 0] 12 rfl (World.shaped_of_RefB (by kernel_rfl) (by kernel_rfl)) (by kernel_rfl) (by kernel_rfl) (by kernel_rfl) (door_met os _)) ?_
  · intro t ht
    rw [hpar] at ht
    have ht : t ∈ [3, 85, 58, 3] := ht
    simp only [List.mem_cons, List.not_mem_nil, or_false] at ht
    rcases ht with rfl | rfl | rfl | rfl
    all_goals exact ⟨by kernel_rfl, of_decide_eq_true (by kernel_rfl)⟩
  · intro ds hl
    rw [hpar] at hl
    match ds, hl with
    | [d0, d1, d2, d3], _ => rfl
  · intro W base args ds ps hval hA hwt L0
    rw [hpar] at hA hval hwt
    obtain ⟨v0, v1, v2, v3, d0, d1, d2, d3, p0, p1, p2, p3, rfl, rfl, rfl, h0, h1, h2, h3⟩ := trod4 hA
    simp only [DataW.weightsEach, List.all_append, Bool.and_eq_true] at hwt
    obtain ⟨w0, w1, w2, w3, _⟩ := hwt
    obtain ⟨x0, rfl⟩ := okWide_int u3 (hval 0 _ _ rfl rfl)
    obtain ⟨c1, rfl, _⟩ := okWide_struct uP (hval 1 _ _ rfl rfl)
    obtain ⟨f1, t1⟩ := h1
    obtain ⟨sd1, dt1, gr1, dr1, li1, ri1, ra1, rl1, rc1, hc1, i11, i21, i31, i41, i51⟩ := open_plan t1
    obtain ⟨c2, rfl, _⟩ := okWide_struct uS (hval 2 _ _ rfl rfl)
    obtain ⟨f2, t2⟩ := h2
    obtain ⟨y0, be2, wt2, tr2, sp2, sky2, st2, g0, L1, e0, r0, S0, j10, j20⟩ := lay_sea L0 t2 w2
    obtain ⟨x3, rfl⟩ := okWide_int u3 (hval 3 _ _ rfl rfl)
    have hm : Top (GG ([] ++ y0)) := ⟨_, rfl⟩
    have hsc := L1.sc
    exact ⟨[I x0, planV sd1 ⟨dt1, gr1, dr1⟩ li1 ri1 ra1 rl1 rc1, seaV (GG ([])).length ((GG ([])).length + 1) ((GG ([])).length + 2) ((GG ([])).length + 3) be2.length wt2.length tr2.length sp2.length sky2 st2, I x3], _, _, L1, all16_ok hm hsc x0 sd1 ⟨dt1, gr1, dr1⟩ li1 ri1 ra1 rl1 rc1 S0 sky2 st2 x3, _, _, rfl, rfl, _, _, rfl, ⟨c1, rfl, by rw [show c1.toList = _ from hc1]; exact ⟨_, _, rfl, rfl, _, _, rfl, ⟨_, rfl, rfl⟩, _, _, rfl, ⟨_, rfl, rfl⟩, _, _, rfl, ⟨_, rfl, rfl⟩, _, _, rfl, rfl, _, _, rfl, rfl, _, _, rfl, rfl, rfl⟩⟩, _, _, rfl, ⟨c2, rfl, r0⟩, _, _, rfl, rfl, rfl⟩
set_option maxHeartbeats 0 in
theorem forceAll_holds : Rows.ForceAllSaid :=
  OpenClaim.holds_of_wide 9 Tryz.f9 rfl rfl rfl rfl rfl rfl rfl ⟨rfl, rfl, rfl, rfl, rfl⟩ rfl rfl rfl rfl rfl (by kernel_rfl) Tryz.func9 (by kernel_rfl)
    (of_decide_eq_true (by kernel_rfl)) (by unfold Func.isWrapper; first | (rw [if_pos (by decide +kernel)]; kernel_rfl) | (rw [if_neg (by decide +kernel)]; exact ⟨rfl, rfl⟩))
    (fun os started H enc _ => forceAll_lifted os started H enc)
set_option maxHeartbeats 0 in
theorem forceAll_card_holds : Rows.ForceAllCardSaid :=
  Claim7.holds_tied_plain_at .later [] [.wider, .data] true (true, "bf3ace20cc2e9359859b258286acbe6964e2a7329101e681c430f298ce7cbc1c") false
    forceAll_holds (fun _ h => by cases h) (by kernel_rfl) (fun _ h => by cases h) forceAll_row_tie rfl ⟨rfl, rfl⟩ (by kernel_rfl) rfl
    (fun f fn hf hfn => by
      obtain rfl : f = 9 := Option.some.inj ((show Tryz.prog.funcNamed "tarn/tarnlaw16.ForceAll" = some 9 by kernel_rfl).symm.trans hf) |>.symm
      obtain rfl : fn = Tryz.f9 := (Option.some.inj (Tryz.func9.symm.trans hfn)).symm
      exact ⟨by kernel_rfl, fun j t ht => by
        rw [show Tryz.f9.params = #[3, 85, 58, 3] from Tryz.params9] at ht
        have ht : t ∈ [3, 85, 58, 3] := by
          have := Array.mem_of_getElem? ht
          simpa using this
        simp only [List.mem_cons, List.not_mem_nil, or_false] at ht
        rcases ht with rfl | rfl | rfl | rfl
        all_goals exact (show Tryz.prog.wantsStandIn _ = false by kernel_rfl)⟩)
    (by kernel_rfl)
end Go.Proofs.YthoofdnnfahhaaaGreatDoor
