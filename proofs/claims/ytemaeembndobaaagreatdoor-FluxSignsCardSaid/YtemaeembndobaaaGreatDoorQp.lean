/- Plans among a law's arguments; laws of four and five arguments. No condition. -/
import Derived.Test.YtemaeembndobaaaGreatDoorQw
namespace Go.Proofs.YtemaeembndobaaaGreatDoor
open Go Go.Eng Go.ChangeShapes Go.WideShapes Go.RowKit
set_option maxRecDepth 100000
set_option linter.unusedSimpArgs false
set_option linter.unusedVariables false

section
variable {H : Type} {enc : TypeId × Value → H} {P : Program} {w : World} {base : Nat} {spare : Nat → Bool} {held : Bool}
theorem trod4 {t0 t1 t2 t3 : TypeId} {args : Array Value} {ds : List (DataW H)} {ps : List MemPlace} (h : DataW.TrodAll enc P w base spare held [t0, t1, t2, t3] args.toList ds ps) :
    ∃ v0 v1 v2 v3 d0 d1 d2 d3 p0 p1 p2 p3, args = #[v0, v1, v2, v3] ∧ ds = [d0, d1, d2, d3] ∧ ps = p0 ++ p1 ++ p2 ++ p3 ∧ DataW.Trod enc P w base spare held t0 v0 d0 p0 ∧ DataW.Trod enc P w base spare held t1 v1 d1 p1 ∧ DataW.Trod enc P w base spare held t2 v2 d2 p2 ∧ DataW.Trod enc P w base spare held t3 v3 d3 p3 := by
  obtain ⟨v0, vs, d0, ds0, p0, q0, hargs, rfl, rfl, h0, hr⟩ := trodAll_cons h
  obtain ⟨v1, vs, d1, ds1, p1, q1, rfl, rfl, rfl, h1, hr⟩ := trodAll_cons hr
  obtain ⟨v2, vs, d2, ds2, p2, q2, rfl, rfl, rfl, h2, hr⟩ := trodAll_cons hr
  obtain ⟨v3, vs, d3, ds3, p3, q3, rfl, rfl, rfl, h3, hr⟩ := trodAll_cons hr
  obtain ⟨rfl, rfl, rfl⟩ := trodAll_nil hr
  exact ⟨v0, v1, v2, v3, d0, d1, d2, d3, p0, p1, p2, p3, by cases args; simp_all, rfl, by simp, h0, h1, h2, h3⟩
theorem trod5 {t0 t1 t2 t3 t4 : TypeId} {args : Array Value} {ds : List (DataW H)} {ps : List MemPlace} (h : DataW.TrodAll enc P w base spare held [t0, t1, t2, t3, t4] args.toList ds ps) :
    ∃ v0 v1 v2 v3 v4 d0 d1 d2 d3 d4 p0 p1 p2 p3 p4, args = #[v0, v1, v2, v3, v4] ∧ ds = [d0, d1, d2, d3, d4] ∧ ps = p0 ++ p1 ++ p2 ++ p3 ++ p4 ∧ DataW.Trod enc P w base spare held t0 v0 d0 p0 ∧ DataW.Trod enc P w base spare held t1 v1 d1 p1 ∧ DataW.Trod enc P w base spare held t2 v2 d2 p2 ∧ DataW.Trod enc P w base spare held t3 v3 d3 p3 ∧ DataW.Trod enc P w base spare held t4 v4 d4 p4 := by
  obtain ⟨v0, vs, d0, ds0, p0, q0, hargs, rfl, rfl, h0, hr⟩ := trodAll_cons h
  obtain ⟨v1, vs, d1, ds1, p1, q1, rfl, rfl, rfl, h1, hr⟩ := trodAll_cons hr
  obtain ⟨v2, vs, d2, ds2, p2, q2, rfl, rfl, rfl, h2, hr⟩ := trodAll_cons hr
  obtain ⟨v3, vs, d3, ds3, p3, q3, rfl, rfl, rfl, h3, hr⟩ := trodAll_cons hr
  obtain ⟨v4, vs, d4, ds4, p4, q4, rfl, rfl, rfl, h4, hr⟩ := trodAll_cons hr
  obtain ⟨rfl, rfl, rfl⟩ := trodAll_nil hr
  exact ⟨v0, v1, v2, v3, v4, d0, d1, d2, d3, d4, p0, p1, p2, p3, p4, by cases args; simp_all, rfl, by simp, h0, h1, h2, h3, h4⟩
theorem seven_of {α : Type} {l : List α} (h : l.length = 7) : ∃ a b c d e f g, l = [a, b, c, d, e, f, g] := by
  match l, h with
  | [a, b, c, d, e, f, g], _ => exact ⟨a, b, c, d, e, f, g, rfl⟩
theorem under_plan : ∃ fs, Tryz.prog.underlying 30 = some (.struct fs) ∧ fs.toList.map (fun f => (f.type, f.offset)) = [(3, 0), (22, 1), (22, 2), (22, 3), (3, 4), (4, 5), (28, 6)] := ⟨_, rfl, rfl⟩
theorem open_plan {W : World} {fuel : Nat} {cs : List Value} {d : DataW H} {ps : List MemPlace} {sp : Nat → Bool} (hr : DataW.trod enc Tryz.prog W base sp held fuel 30 cs = some (d, ps)) :
    ∃ side dt gr dr lim riv ra rl rc, cs = [.int .i64 side, .float .f64 dt, .float .f64 gr, .float .f64 dr, .int .i64 lim, .bool riv, .slice ra rl rc] ∧ in64 side ∧ inF dt ∧ inF gr ∧ inF dr ∧ in64 lim := by
  obtain ⟨fs, hu, hts⟩ := under_plan
  have ones : ∀ (i : Nat) (p : TypeId × Nat), [(3, 0), (22, 1), (22, 2), (22, 3), (3, 4), (4, 5), (28, 6)][i]? = some p → p.2 = i ∧ Tryz.prog.cellsOf p.1 = 1 := by
    intro i p hp
    match i, hp with
    | 0, hp => injection hp with hp; subst hp; exact ⟨rfl, by kernel_rfl⟩
    | 1, hp => injection hp with hp; subst hp; exact ⟨rfl, by kernel_rfl⟩
    | 2, hp => injection hp with hp; subst hp; exact ⟨rfl, by kernel_rfl⟩
    | 3, hp => injection hp with hp; subst hp; exact ⟨rfl, by kernel_rfl⟩
    | 4, hp => injection hp with hp; subst hp; exact ⟨rfl, by kernel_rfl⟩
    | 5, hp => injection hp with hp; subst hp; exact ⟨rfl, by kernel_rfl⟩
    | 6, hp => injection hp with hp; subst hp; exact ⟨rfl, by kernel_rfl⟩
  have uE : Tryz.prog.underlying 22 = some (.float .f64) := by kernel_rfl
  have u3 : Tryz.prog.underlying 3 = some (.int .i64) := by kernel_rfl
  have u4 : Tryz.prog.underlying 4 = some .bool := by kernel_rfl
  have uR : ∃ e, Tryz.prog.underlying 28 = some (.slice e) := ⟨_, rfl⟩
  obtain ⟨eR, uR⟩ := uR
  obtain ⟨ds, rfl, hl, hd, hw, ex⟩ := open_cells hu hts (by kernel_rfl) ones hr
  obtain ⟨c0, c1, c2, c3, c4, c5, c6, rfl⟩ := seven_of hl
  obtain ⟨_, _, _, _, a0, _, t0⟩ := ex 0 _ rfl
  obtain ⟨_, _, _, _, a1, _, t1⟩ := ex 1 _ rfl
  obtain ⟨_, _, _, _, a2, _, t2⟩ := ex 2 _ rfl
  obtain ⟨_, _, _, _, a3, _, t3⟩ := ex 3 _ rfl
  obtain ⟨_, _, _, _, a4, _, t4⟩ := ex 4 _ rfl
  obtain ⟨_, _, _, _, a5, _, t5⟩ := ex 5 _ rfl
  obtain ⟨_, _, _, _, a6, _, t6⟩ := ex 6 _ rfl
  injection a0 with a0; injection a1 with a1; injection a2 with a2; injection a3 with a3; injection a4 with a4; injection a5 with a5; injection a6 with a6
  subst a0 a1 a2 a3 a4 a5 a6
  obtain ⟨x0, q0, _, m0⟩ := DataW.trod_int u3 t0
  obtain ⟨x1, q1, _, m1⟩ := trod_float uE t1
  obtain ⟨x2, q2, _, m2⟩ := trod_float uE t2
  obtain ⟨x3, q3, _, m3⟩ := trod_float uE t3
  obtain ⟨x4, q4, _, m4⟩ := DataW.trod_int u3 t4
  obtain ⟨x5, q5, _⟩ := DataW.trod_bool u4 t5
  injection q0 with q0; injection q1 with q1; injection q2 with q2; injection q3 with q3; injection q4 with q4; injection q5 with q5
  subst q0 q1 q2 q3 q4 q5
  have h6 : ∃ ra rl rc, c6 = .slice ra rl rc := by
    rcases DataW.trod_slice uR t6 with ⟨h, _⟩ | ⟨a, len, cap, _, _, _, _, h, _⟩
    · injection h with h; exact ⟨_, _, _, h⟩
    · injection h with h; exact ⟨_, _, _, h⟩
  obtain ⟨ra, rl, rc, rfl⟩ := h6
  exact ⟨x0, x1, x2, x3, x4, x5, ra, rl, rc, rfl, in64_wf m0, wf64 m1, wf64 m2, wf64 m3, in64_wf m4⟩
end
end Go.Proofs.YtemaeembndobaaaGreatDoor
