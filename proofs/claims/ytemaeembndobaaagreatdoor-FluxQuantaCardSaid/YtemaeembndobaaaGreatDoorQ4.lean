/- Four floats among a law's arguments. No condition. -/
import Derived.Test.YtemaeembndobaaaGreatDoorQw
namespace Go.Proofs.YtemaeembndobaaaGreatDoor
open Go Go.Eng Go.ChangeShapes Go.WideShapes Go.RowKit
set_option maxRecDepth 100000
set_option linter.unusedSimpArgs false
set_option linter.unusedVariables false

section
variable {H : Type} {enc : TypeId × Value → H}
theorem four_of {α : Type} {l : List α} (h : l.length = 4) : ∃ a b c d, l = [a, b, c, d] := by
  match l, h with
  | [a, b, c, d], _ => exact ⟨a, b, c, d, rfl⟩
theorem under_four : ∃ fs, Tryz.prog.underlying 24 = some (.struct fs) ∧ fs.toList.map (fun f => (f.type, f.offset)) = [(22, 0), (22, 1), (22, 2), (22, 3)] := ⟨_, rfl, rfl⟩
theorem open_four {W : World} {base : Nat} {fuel : Nat} {cs : List Value} {d : DataW H} {ps : List MemPlace} {sp : Nat → Bool} {held : Bool} (hr : DataW.trod enc Tryz.prog W base sp held fuel 24 cs = some (d, ps)) :
    ∃ u h l t, cs = [.float .f64 u, .float .f64 h, .float .f64 l, .float .f64 t] ∧ inF u ∧ inF h ∧ inF l ∧ inF t := by
  obtain ⟨fs, hu, hts⟩ := under_four
  have ones : ∀ (i : Nat) (p : TypeId × Nat), [(22, 0), (22, 1), (22, 2), (22, 3)][i]? = some p → p.2 = i ∧ Tryz.prog.cellsOf p.1 = 1 := by
    intro i p hp
    match i, hp with
    | 0, hp => injection hp with hp; subst hp; exact ⟨rfl, by kernel_rfl⟩
    | 1, hp => injection hp with hp; subst hp; exact ⟨rfl, by kernel_rfl⟩
    | 2, hp => injection hp with hp; subst hp; exact ⟨rfl, by kernel_rfl⟩
    | 3, hp => injection hp with hp; subst hp; exact ⟨rfl, by kernel_rfl⟩
  have uE : Tryz.prog.underlying 22 = some (.float .f64) := by kernel_rfl
  obtain ⟨ds, rfl, hl, hd, hw, ex⟩ := open_cells hu hts (by kernel_rfl) ones hr
  obtain ⟨c0, c1, c2, c3, rfl⟩ := four_of hl
  obtain ⟨_, _, _, _, a0, _, t0⟩ := ex 0 _ rfl
  obtain ⟨_, _, _, _, a1, _, t1⟩ := ex 1 _ rfl
  obtain ⟨_, _, _, _, a2, _, t2⟩ := ex 2 _ rfl
  obtain ⟨_, _, _, _, a3, _, t3⟩ := ex 3 _ rfl
  injection a0 with a0; injection a1 with a1; injection a2 with a2; injection a3 with a3
  subst a0 a1 a2 a3
  obtain ⟨x0, q0, _, m0⟩ := trod_float uE t0
  obtain ⟨x1, q1, _, m1⟩ := trod_float uE t1
  obtain ⟨x2, q2, _, m2⟩ := trod_float uE t2
  obtain ⟨x3, q3, _, m3⟩ := trod_float uE t3
  injection q0 with q0; injection q1 with q1; injection q2 with q2; injection q3 with q3
  subst q0 q1 q2 q3
  exact ⟨x0, x1, x2, x3, rfl, wf64 m0, wf64 m1, wf64 m2, wf64 m3⟩
end
end Go.Proofs.YtemaeembndobaaaGreatDoor
