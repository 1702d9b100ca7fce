/- Bounds of areas, lengths, gaps and points of a net. The card of GeomBounds holds: at every input the law says 'true' and its arguments stay as they were. Conditions: those that the given statement itself names (the two tables laid), and none of our own. -/
import Derived.Test.YtbfdbpmdibjanaaDoorQ
import Derived.Test.YtbfdbpmdibjanaaDoorBounds
import Derived.Test.YtbfdbpmdibjanaaDoorTie
import Derived.Test.YtbfdbpmdibjanaaDoorCards
import Derived.SevenTiedAt
namespace Go.Proofs.YtbfdbpmdibjanaaDoor
open Go Go.Eng Go.ChangeShapes Go.WideShapes Go.RowKit
set_option maxRecDepth 100000
set_option linter.unusedSimpArgs false
set_option linter.unusedVariables false

theorem geomBounds_lifted (os : Os) (started : os.Started) (H : Type) (enc : TypeId × Value → H) :
    ReturnsInHanded {} Tryd.checked os 4 .any (fun w args => (Rows.geomBoundsSpec.pre enc Tryd.prog Tryd.f4 [] false w args ∧ laidMetH Tryd.prog laid2 w) ∧ sizedMet enc Tryd.prog Tryd.f4 (OpenSpec.ofChange Rows.geomBoundsSpec) false w args) (Rows.geomBoundsSpec.post enc Tryd.prog Tryd.f4 false true false false) := by
  have hpar : Tryd.f4.params = #[3, 3, 3] := Tryd.params4
  have u3 : Tryd.prog.underlying 3 = some (.int .i64) := by kernel_rfl
  refine law_lifted Tryd.f4 Rows.geomBoundsSpec os started Tryd.func4 (by kernel_rfl) (by kernel_rfl) rfl (by kernel_rfl) ?_ ?_
    (ChangeSpec.witness_shaped (enc := enc) (C := Tryd.checked) (os := os) (X := fun w _ => laidMetH Tryd.prog laid2 w) false (World.doorLaid Tryd.prog 400 os) #[.int .i64 0, .int .i64 0, .int .i64 0] 8 rfl (World.shaped_of_RefB (by kernel_rfl) (by kernel_rfl)) (by kernel_rfl) (by kernel_rfl) (by kernel_rfl) (door_met os _)) ?_
  · intro t ht
    rw [hpar] at ht
    obtain rfl : t = 3 := by simpa using ht
    exact ⟨by kernel_rfl, of_decide_eq_true (by kernel_rfl)⟩
  · intro ds hl
    rw [hpar] at hl
    match ds, hl with
    | [d0, d1, d2], _ => rfl
  · intro W base args ds ps hval hA
    rw [hpar] at hA hval
    obtain ⟨v0, v1, v2, d0, d1, d2, p0, p1, p2, rfl, rfl, rfl, h0, h1, h2⟩ := trodAll_three hA
    obtain ⟨a, rfl⟩ := okWide_int u3 (hval 0 _ _ rfl rfl)
    obtain ⟨b, rfl⟩ := okWide_int u3 (hval 1 _ _ rfl rfl)
    obtain ⟨c, rfl⟩ := okWide_int u3 (hval 2 _ _ rfl rfl)
    exact ⟨[I a, I b, I c], bounds08_ok a b c, _, _, rfl, rfl, _, _, rfl, rfl, _, _, rfl, rfl, rfl⟩
theorem geomBounds_holds : Rows.GeomBoundsSaid :=
  OpenClaim.holds_of_wide 4 Tryd.f4 rfl rfl rfl rfl rfl rfl rfl ⟨rfl, rfl, rfl, rfl, rfl⟩ rfl rfl rfl rfl rfl (by kernel_rfl) Tryd.func4 (by kernel_rfl)
    (of_decide_eq_true (by kernel_rfl)) (by unfold Func.isWrapper; first | (rw [if_pos (by decide +kernel)]; kernel_rfl) | (rw [if_neg (by decide +kernel)]; exact ⟨rfl, rfl⟩))
    (fun os started H enc _ => geomBounds_lifted os started H enc)
theorem geomBounds_card_holds : Rows.GeomBoundsCardSaid :=
  Claim7.holds_tied_plain_at .later [] [.wider, .data] true (true, "711f9a9ad0609b584029c3e94315609c90d3ac3980ec42168e82812fd3056b92") false
    geomBounds_holds (fun _ h => by cases h) (by kernel_rfl) (fun _ h => by cases h) geomBounds_row_tie rfl ⟨rfl, rfl⟩ (by kernel_rfl) rfl
    (fun f fn hf hfn => by
      obtain rfl : f = 4 := Option.some.inj ((show Tryd.prog.funcNamed "tarn/tarnlaw08.GeomBounds" = some 4 by kernel_rfl).symm.trans hf) |>.symm
      obtain rfl : fn = Tryd.f4 := (Option.some.inj (Tryd.func4.symm.trans hfn)).symm
      exact ⟨by kernel_rfl, fun j t ht => by
        have h3 : t = 3 := by
          rw [show Tryd.f4.params = #[3, 3, 3] from Tryd.params4] at ht
          rcases j with _ | j
          · simpa using ht.symm
          · rcases j with _ | j
            · simpa using ht.symm
            · rcases j with _ | j
              · simpa using ht.symm
              · simp at ht
        subst h3
        exact (show Tryd.prog.wantsStandIn 3 = false by kernel_rfl)⟩)
    (by kernel_rfl)
end Go.Proofs.YtbfdbpmdibjanaaDoor
