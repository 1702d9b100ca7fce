/- A flow over one edge alone. The card of MassOne holds: at every input the law says 'true' and its arguments stay as they were. Conditions: those that the given statement itself names (the two tables laid), and none of our own. -/
import Derived.Test.YtjpkfdhfofaehaaDoorQm
import Derived.Test.YtjpkfdhfofaehaaDoorMone
import Derived.Test.YtjpkfdhfofaehaaDoorTie
import Derived.Test.YtjpkfdhfofaehaaDoorCards
import Derived.SevenTiedAt
namespace Go.Proofs.YtjpkfdhfofaehaaDoor
open Go Go.Eng Go.ChangeShapes Go.WideShapes Go.RowKit
set_option maxRecDepth 100000
set_option linter.unusedSimpArgs false
set_option linter.unusedVariables false

set_option maxHeartbeats 0 in
theorem massOne_lifted (os : Os) (started : os.Started) (H : Type) (enc : TypeId × Value → H) :
    ReturnsInHanded {} Tryd.checked os 6 .any (fun w args => (Rows.massOneSpec.pre enc Tryd.prog Tryd.f6 [] false w args ∧ laidMetH Tryd.prog laid2 w) ∧ sizedMet enc Tryd.prog Tryd.f6 (OpenSpec.ofChange Rows.massOneSpec) false w args) (Rows.massOneSpec.post enc Tryd.prog Tryd.f6 false true false false) := by
  have hpar : Tryd.f6.params = #[3, 22, 22] := Tryd.params6
  have u3 : Tryd.prog.underlying 3 = some (.int .i64) := by kernel_rfl
  have u2 : Tryd.prog.underlying 2 = some (.int .i64) := by kernel_rfl
  have uS : Tryd.prog.underlying 22 = some (.slice 2) := by kernel_rfl
  have uE : Tryd.prog.underlying 2 = some (.int .i64) := by kernel_rfl
  refine law_sized Tryd.f6 Rows.massOneSpec os started Tryd.func6 (by kernel_rfl) (by kernel_rfl) rfl (by kernel_rfl) ?_ ?_
    (ChangeSpec.witness_shaped (enc := enc) (C := Tryd.checked) (os := os) (X := fun w _ => laidMetH Tryd.prog laid2 w) false (World.doorLaid Tryd.prog 400 os) #[.int .i64 0, .slice none 0 0, .slice none 0 0] 8 rfl (World.shaped_of_RefB (by kernel_rfl) (by kernel_rfl)) (by kernel_rfl) (by kernel_rfl) (by kernel_rfl) (door_met os _)) ?_
  · intro t ht
    rw [hpar] at ht
    have ht : t ∈ [3, 22, 22] := ht
    simp only [List.mem_cons, List.not_mem_nil, or_false] at ht
    rcases ht with rfl | rfl | rfl
    all_goals exact ⟨by kernel_rfl, of_decide_eq_true (by kernel_rfl)⟩
  · intro ds hl
    rw [hpar] at hl
    match ds, hl with
    | [d0, d1, d2], _ => rfl
  · intro W base args ds ps hval hA hwt L0
    rw [hpar] at hA hval hwt
    obtain ⟨v0, v1, v2, d0, d1, d2, p0, p1, p2, rfl, rfl, rfl, h0, h1, h2⟩ := trodAll_three hA
    simp only [DataW.weightsEach, List.all_append, Bool.and_eq_true] at hwt
    obtain ⟨w0, w1, w2, _⟩ := hwt
    obtain ⟨x0, rfl⟩ := okWide_int u3 (hval 0 _ _ rfl rfl)
    obtain ⟨_, _, _, rfl⟩ := okWide_slice uS (hval 1 _ _ rfl rfl)
    obtain ⟨_, t1⟩ := h1
    obtain ⟨b0, u0, l0, g0, L1, e0, s0, r0, z0⟩ := lay_ints L0 uS uE (by kernel_rfl) (by kernel_rfl) t1 w1
    obtain ⟨_, _, _, rfl⟩ := okWide_slice uS (hval 2 _ _ rfl rfl)
    obtain ⟨_, t2⟩ := h2
    obtain ⟨b1, u1, l1, g1, L2, e1, s1, r1, z1⟩ := lay_ints L1 uS uE (by kernel_rfl) (by kernel_rfl) t2 w2
    have hm : Top (GG ([] ++ [b0] ++ [b1])) := ⟨_, rfl⟩
    have hsc := L2.sc
    exact ⟨[I x0, u0, u1], _, _, L2, one15law_ok hm hsc x0 (s0.app [b1]) s1, _, _, rfl, rfl, _, _, rfl, (Rv_mono (by simp) e1 _ r0), _, _, rfl, r1, rfl⟩
set_option maxHeartbeats 0 in
theorem massOne_holds : Rows.MassOneSaid :=
  OpenClaim.holds_of_wide 6 Tryd.f6 rfl rfl rfl rfl rfl rfl rfl ⟨rfl, rfl, rfl, rfl, rfl⟩ rfl rfl rfl rfl rfl (by kernel_rfl) Tryd.func6 (by kernel_rfl)
    (of_decide_eq_true (by kernel_rfl)) (by unfold Func.isWrapper; first | (rw [if_pos (by decide +kernel)]; kernel_rfl) | (rw [if_neg (by decide +kernel)]; exact ⟨rfl, rfl⟩))
    (fun os started H enc _ => massOne_lifted os started H enc)
set_option maxHeartbeats 0 in
theorem massOne_card_holds : Rows.MassOneCardSaid :=
  Claim7.holds_tied_plain_at .later [] [.wider, .data] true (true, "c7cd848fccdb71c86bc1eeb059bd12d451d3db5fce284aa8eb79b1ba2fb04724") false
    massOne_holds (fun _ h => by cases h) (by kernel_rfl) (fun _ h => by cases h) massOne_row_tie rfl ⟨rfl, rfl⟩ (by kernel_rfl) rfl
    (fun f fn hf hfn => by
      obtain rfl : f = 6 := Option.some.inj ((show Tryd.prog.funcNamed "tarn/tarnlaw15.MassOne" = some 6 by kernel_rfl).symm.trans hf) |>.symm
      obtain rfl : fn = Tryd.f6 := (Option.some.inj (Tryd.func6.symm.trans hfn)).symm
      exact ⟨by kernel_rfl, fun j t ht => by
        rw [show Tryd.f6.params = #[3, 22, 22] from Tryd.params6] at ht
        have ht : t ∈ [3, 22, 22] := by
          have := Array.mem_of_getElem? ht
          simpa using this
        simp only [List.mem_cons, List.not_mem_nil, or_false] at ht
        rcases ht with rfl | rfl | rfl
        all_goals exact (show Tryd.prog.wantsStandIn _ = false by kernel_rfl)⟩)
    (by kernel_rfl)
end Go.Proofs.YtjpkfdhfofaehaaDoor
