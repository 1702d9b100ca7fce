/- An ask of layer 12 among a law's arguments. No condition. -/
import Derived.Test.YthoofdnnfahhaaaGreatDoorQw
namespace Go.Proofs.YthoofdnnfahhaaaGreatDoor
open Go Go.Eng Go.ChangeShapes Go.WideShapes Go.RowKit
set_option maxRecDepth 100000
set_option linter.unusedSimpArgs false
set_option linter.unusedVariables false

section
variable {H : Type} {enc : TypeId × Value → H}
theorem eight_of {α : Type} {l : List α} (h : l.length = 8) : ∃ a b r, l = a :: b :: r ∧ r.length = 6 := by
  match l, h with
  | a :: b :: r, h => exact ⟨a, b, r, rfl, by simpa using h⟩
theorem three_of {α : Type} {l : List α} (h : l.length = 3) : ∃ a b c, l = [a, b, c] := by
  match l, h with
  | [a, b, c], _ => exact ⟨a, b, c, rfl⟩
theorem under_ask : ∃ f0 f1 f2 : Field, Tryz.prog.underlying 60 = some (.struct #[f0, f1, f2]) ∧ f0.type = 3 ∧ f1.type = 3 ∧ f2.type = 58 ∧ f0.offset = 0 ∧ f1.offset = 1 ∧ f2.offset = 2 := ⟨_, _, _, rfl, rfl, rfl, rfl, rfl, rfl, rfl⟩
set_option maxHeartbeats 0 in
theorem lay_ask {W : World} {z : List Blk} {g : Nat → Pl} (h : Lay W z g) {fuel : Nat} {cs : List Value} {d : DataW H} {ps : List MemPlace} {sp : Nat → Bool} {held : Bool} (hr : DataW.trod enc Tryz.prog W 0 sp held fuel 60 cs = some (d, ps)) (hsz : (d.weights Tryz.prog 60).all (· ≤ reachBytes) = true) :
    ∃ side lim y bed water tracer speed sky step g', Lay W (z ++ y) g' ∧ (∀ i, i < (GG z).length → g' i = g i) ∧ Rvs (GG (z ++ y)).length g' [I side, I lim, .sl (GG z).length 0 bed.length, .sl ((GG z).length + 1) 0 water.length, .sl ((GG z).length + 2) 0 tracer.length, .sl ((GG z).length + 3) 0 speed.length, .int .i64 sky, I step] cs ∧ SeaB (GG (z ++ y)) false (GG z).length ((GG z).length + 1) ((GG z).length + 2) ((GG z).length + 3) bed water tracer speed ∧ in64 side ∧ in64 lim := by
  obtain ⟨f0, f1, f2, hu, t0, t1, t2, o0, o1, o2⟩ := under_ask
  have u3 : Tryz.prog.underlying 3 = some (.int .i64) := by kernel_rfl
  obtain ⟨xs, n, rfl, hx, hlen, hn, hel⟩ := DataW.trod_struct hu hr
  have hd : d = .agg (xs.map (·.1)) := congrArg Prod.fst hx
  obtain ⟨x0, x1, x2, rfl⟩ := three_of hn
  obtain ⟨a, b, r, rfl, hr6⟩ := eight_of (hlen.trans (show Tryz.prog.cellsOf 60 = 8 by kernel_rfl))
  have h0 := hel 0 f0 rfl
  have h1 := hel 1 f1 rfl
  have h2 := hel 2 f2 rfl
  rw [t0, o0, show Tryz.prog.cellsOf 3 = 1 by kernel_rfl] at h0
  rw [t1, o1, show Tryz.prog.cellsOf 3 = 1 by kernel_rfl] at h1
  rw [t2, o2, show Tryz.prog.cellsOf 58 = 6 by kernel_rfl, show ((a :: b :: r).drop 2).take 6 = r from by rw [show (a :: b :: r).drop 2 = r from rfl, List.take_of_length_le (by omega)]] at h2
  have h0 : DataW.trod enc Tryz.prog W 0 sp held n 3 [a] = some (x0.1, x0.2) := h0
  have h1 : DataW.trod enc Tryz.prog W 0 sp held n 3 [b] = some (x1.1, x1.2) := h1
  have h2 : DataW.trod enc Tryz.prog W 0 sp held n 58 r = some (x2.1, x2.2) := h2
  have hw : (x2.1.weights Tryz.prog 58).all (· ≤ reachBytes) = true := by
    rw [hd] at hsz
    unfold DataW.weights at hsz
    rw [hu] at hsz
    simp only [List.map_cons, List.map_nil, DataW.weightsEach, List.all_append, Bool.and_eq_true] at hsz
    have := hsz.2.2.1
    rw [t2] at this
    exact this
  obtain ⟨y, bed, water, tracer, speed, sky, step, g', L, e, rv, S, _, _⟩ := lay_sea h h2 hw
  obtain ⟨side, q0, _, m0⟩ := DataW.trod_int u3 h0
  obtain ⟨lim, q1, _, m1⟩ := DataW.trod_int u3 h1
  injection q0 with q0; injection q1 with q1
  subst q0 q1
  exact ⟨side, lim, y, bed, water, tracer, speed, sky, step, g', L, e, ⟨_, _, rfl, rfl, _, _, rfl, rfl, rv⟩, S, in64_wf m0, in64_wf m1⟩
end
end Go.Proofs.YthoofdnnfahhaaaGreatDoor
