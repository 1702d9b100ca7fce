/- A cell's area, and the length and gap of its sides, are those of the cell that a turn makes of it. The card of GeomTurns holds: at every input the law says 'true' and its arguments stay as they were. Conditions: those that the given statement itself names (the two tables laid), and none of our own. -/
import Derived.Test.YtbfdbpmdibjanaaDoorQ
import Derived.Test.YtbfdbpmdibjanaaDoorTurns
import Derived.Test.YtbfdbpmdibjanaaDoorTie
import Derived.Test.YtbfdbpmdibjanaaDoorCards
import Derived.SevenTiedAt
namespace Go.Proofs.YtbfdbpmdibjanaaDoor
open Go Go.Eng Go.ChangeShapes Go.WideShapes Go.RowKit
set_option maxRecDepth 100000
set_option linter.unusedSimpArgs false
set_option linter.unusedVariables false

theorem geomTurns_lifted (os : Os) (started : os.Started) (H : Type) (enc : TypeId × Value → H) :
    ReturnsInHanded {} Tryd.checked os 6 .any (fun w args => (Rows.geomTurnsSpec.pre enc Tryd.prog Tryd.f6 [] false w args ∧ laidMetH Tryd.prog laid2 w) ∧ sizedMet enc Tryd.prog Tryd.f6 (OpenSpec.ofChange Rows.geomTurnsSpec) false w args) (Rows.geomTurnsSpec.post enc Tryd.prog Tryd.f6 false true false false) := by
  have hpar : Tryd.f6.params = #[3, 3, 3, 3] := Tryd.params6
  have u3 : Tryd.prog.underlying 3 = some (.int .i64) := by kernel_rfl
  refine law_lifted Tryd.f6 Rows.geomTurnsSpec os started Tryd.func6 (by kernel_rfl) (by kernel_rfl) rfl (by kernel_rfl) ?_ ?_
    (ChangeSpec.witness_shaped (enc := enc) (C := Tryd.checked) (os := os) (X := fun w _ => laidMetH Tryd.prog laid2 w) false (World.doorLaid Tryd.prog 400 os) #[.int .i64 0, .int .i64 0, .int .i64 0, .int .i64 0] 8 rfl (World.shaped_of_RefB (by kernel_rfl) (by kernel_rfl)) (by kernel_rfl) (by kernel_rfl) (by kernel_rfl) (door_met os _)) ?_
  · intro t ht
    rw [hpar] at ht
    obtain rfl : t = 3 := by simpa using ht
    exact ⟨by kernel_rfl, of_decide_eq_true (by kernel_rfl)⟩
  · intro ds hl
    rw [hpar] at hl
    match ds, hl with
    | [d0, d1, d2, d3], _ => rfl
  · intro W base args ds ps hval hA
    rw [hpar] at hA hval
    obtain ⟨v0, v1, v2, v3, d0, d1, d2, d3, p0, p1, p2, p3, rfl, rfl, rfl, h0, h1, h2, h3⟩ := trodAll_four hA
    obtain ⟨a, rfl⟩ := okWide_int u3 (hval 0 _ _ rfl rfl)
    obtain ⟨b, rfl⟩ := okWide_int u3 (hval 1 _ _ rfl rfl)
    obtain ⟨c, rfl⟩ := okWide_int u3 (hval 2 _ _ rfl rfl)
    obtain ⟨e, rfl⟩ := okWide_int u3 (hval 3 _ _ rfl rfl)
    exact ⟨[I a, I b, I c, I e], turns08_ok a b c e, _, _, rfl, rfl, _, _, rfl, rfl, _, _, rfl, rfl, _, _, rfl, rfl, rfl⟩
theorem geomTurns_holds : Rows.GeomTurnsSaid :=
  OpenClaim.holds_of_wide 6 Tryd.f6 rfl rfl rfl rfl rfl rfl rfl ⟨rfl, rfl, rfl, rfl, rfl⟩ rfl rfl rfl rfl rfl (by kernel_rfl) Tryd.func6 (by kernel_rfl)
    (of_decide_eq_true (by kernel_rfl)) (by unfold Func.isWrapper; first | (rw [if_pos (by decide +kernel)]; kernel_rfl) | (rw [if_neg (by decide +kernel)]; exact ⟨rfl, rfl⟩))
    (fun os started H enc _ => geomTurns_lifted os started H enc)
theorem geomTurns_card_holds : Rows.GeomTurnsCardSaid :=
  Claim7.holds_tied_plain_at .later [] [.wider, .data] true (true, "711f9a9ad0609b584029c3e94315609c90d3ac3980ec42168e82812fd3056b92") false
    geomTurns_holds (fun _ h => by cases h) (by kernel_rfl) (fun _ h => by cases h) geomTurns_row_tie rfl ⟨rfl, rfl⟩ (by kernel_rfl) rfl
    (fun f fn hf hfn => by
      obtain rfl : f = 6 := Option.some.inj ((show Tryd.prog.funcNamed "tarn/tarnlaw08.GeomTurns" = some 6 by kernel_rfl).symm.trans hf) |>.symm
      obtain rfl : fn = Tryd.f6 := (Option.some.inj (Tryd.func6.symm.trans hfn)).symm
      exact ⟨by kernel_rfl, fun j t ht => by
        have h3 : t = 3 := by
          rw [show Tryd.f6.params = #[3, 3, 3, 3] from Tryd.params6] at ht
          rcases j with _ | j
          · simpa using ht.symm
          · rcases j with _ | j
            · simpa using ht.symm
            · rcases j with _ | j
              · simpa using ht.symm
              · rcases j with _ | j
                · simpa using ht.symm
                · simp at ht
        subst h3
        exact (show Tryd.prog.wantsStandIn 3 = false by kernel_rfl)⟩)
    (by kernel_rfl)
end Go.Proofs.YtbfdbpmdibjanaaDoor
