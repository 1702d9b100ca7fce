/- Package flux: what passes over the edges. No condition. -/
import Derived.Test.YthoofdnnfahhaaaGreatDoorCl
import Derived.Test.YthoofdnnfahhaaaGreatDoorRc
import Derived.Test.YthoofdnnfahhaaaGreatDoorFc
namespace Go.Proofs.YthoofdnnfahhaaaGreatDoor
open Go Go.Eng
set_option maxRecDepth 100000
set_option linter.unusedSimpArgs false
set_option linter.unusedVariables false

theorem blkI64 {L L' : List Int} (h : L = L') : (⟨true, .ints .i64 L⟩ : Blk) = ⟨true, .ints .i64 L'⟩ := by rw [h]
/-- What passes over an edge. -/
def fluxE (n : Nat) (lim : Int) (dt : Nat) (Be : List Nat) (Wt : List Int) (Sp : List Nat) (k : Nat) (y : Ed) : Int := quantF (Sp.getD k 0) (reconF n lim Be Wt y (Sp.getD k 0)) (lnE n y) dt
def fluxT (n : Nat) (lim : Int) (dt : Nat) (Be : List Nat) (Wt : List Int) (Sp : List Nat) (e : Nat) : Int := match (edges n)[e]? with
  | some x => fluxE n lim dt Be Wt Sp e x
  | none => 0
theorem fluxT_at {n : Nat} {lim : Int} {dt : Nat} {Be : List Nat} {Wt : List Int} {Sp : List Nat} {e : Nat} {x : Ed} (hx : (edges n)[e]? = some x) : fluxT n lim dt Be Wt Sp e = fluxE n lim dt Be Wt Sp e x := by
  rw [fluxT, hx]
section
variable {M : List Blk} {b n : Nat} (hsc : scM M.length M = true) (N : Net M b n) {j0 j1 j2 j3 : Nat} {Be : List Nat} {Wt Tr : List Int} {Sp : List Nat} (S : SeaR M j0 j1 j2 j3 Be Wt Tr Sp) (sky step : Int) (hf : Fit n Be.length Wt.length Tr.length Sp.length) (hn : 1 ≤ n) (hn' : n ≤ 32)
include hsc N S hf hn hn'
set_option maxHeartbeats 0 in
theorem All_at (side : Int) (p : PlF) (lim : Int) (riv : Bool) (ra : Option Addr) (rl rc : Nat) :
    COk Tryz.prog 3 61 [.ptr (b + 1) 0, planV side p lim riv ra rl rc, seaV j0 j1 j2 j3 Be.length Wt.length Tr.length Sp.length sky step] M (.tup [.sl (M.length + 2) 0 Sp.length, I 0]) (M ++ [⟨true, .cells [I side, F p.dt, F p.gr, F p.dr, I lim, Bo riv, .raw (.slice ra rl rc)]⟩, ⟨true, .cells [.sl j0 0 Be.length, .sl j1 0 Wt.length, .sl j2 0 Tr.length, .sl j3 0 Sp.length, .int .i64 sky, I step]⟩, ⟨true, .ints .i64 (tab Sp.length (fluxT n lim p.dt Be Wt Sp))⟩]) := by
  have l0 := S.s0.lt
  have l1 := S.s1.lt
  have l2 := S.s2.lt
  have l3 := S.s3.lt
  have hnl := N.lt
  have hlen := edges_len hn
  have hsq : n * n ≤ 1024 := Nat.mul_le_mul hn' hn'
  obtain ⟨q0, q1, q2, q3⟩ := hf
  have hscm : ∀ L : List Int, scM (M ++ ([⟨true, .cells [I side, F p.dt, F p.gr, F p.dr, I lim, Bo riv, .raw (.slice ra rl rc)]⟩, ⟨true, .cells [.sl j0 0 Be.length, .sl j1 0 Wt.length, .sl j2 0 Tr.length, .sl j3 0 Sp.length, .int .i64 sky, I step]⟩, ⟨true, .ints .i64 L⟩] : List Blk)).length (M ++ ([⟨true, .cells [I side, F p.dt, F p.gr, F p.dr, I lim, Bo riv, .raw (.slice ra rl rc)]⟩, ⟨true, .cells [.sl j0 0 Be.length, .sl j1 0 Wt.length, .sl j2 0 Tr.length, .sl j3 0 Sp.length, .int .i64 sky, I step]⟩, ⟨true, .ints .i64 L⟩] : List Blk)) = true := fun L => scM_app (scM_mono (by simp) _ hsc) (by simp [scM, B.sc, scL, V.sc]; omega)
  refine COk_of_ev Tryz.f61 Tryz.func61 (by kernel_rfl) (by simp) (by simp [V.sc, scL]) (.inr (hscm _)) ?_
  have hge : ∀ x, COk Tryz.prog 3 32 [.ptr (b + 1) 0] (M ++ x) (I Sp.length) (M ++ x) := fun x => by rw [q3]; exact gedges_ok (N.more x)
  have hgc : ∀ x, COk Tryz.prog 3 30 [.ptr (b + 1) 0] (M ++ x) (I (6 * (n * n) : Nat)) (M ++ x) := fun x => gcells_ok (N.more x)
  (conv => whnf); repeat ((first | refine ⟨_, _, hge _, ?_⟩ | refine ⟨_, hge _, ?_⟩ | refine ⟨_, hgc _, ?_⟩ | refine br_no (bo_eqn (by omega)) ?_ | refine br_d ⟨by omega, by omega, by omega, (by show (8 : Int) * _ ≤ 2 ^ 48; omega)⟩ ?_ | refine Or.inl ?_ | rw [getB_app] | refine addB_f2 ?_ | refine addB_f1 ?_ | refine addB_f0 ?_); conv => whnf)
  refine loop_to (fun k => [.ptr (b + 1) 0, .any, .any, .any, .ptr M.length 0, .ptr (M.length + 1) 0, .any, .any, .sl (M.length + 2) 0 Sp.length, .any, .any, .any, .any, .any, .any, .any, .any, .any, .any, .any, .any, .any, .any, .any, .any, .any, .any, .any, .any, .any, .any, .any, .any, .any, .any, .any, .any, .any, .any, .any, .any, .any, .any, .any, .any, .any, .any, I Sp.length, I k, .any, .any, .any, .any, .any, .any, .any, .any, .any, .any, .any, .any, .any, .any, .any, .any, .any, .any, .any, .any, .any, .any, .any, .any, .any, .any]) (fun k => M ++ [⟨true, .cells [I side, F p.dt, F p.gr, F p.dr, I lim, Bo riv, .raw (.slice ra rl rc)]⟩, ⟨true, .cells [.sl j0 0 Be.length, .sl j1 0 Wt.length, .sl j2 0 Tr.length, .sl j3 0 Sp.length, .int .i64 sky, I step]⟩, ⟨true, .ints .i64 (tab Sp.length (preT k (fluxT n lim p.dt Be Wt Sp) 0))⟩]) 0 Sp.length (Nat.zero_le _) ?_ ?_ ?_
  · refine Fg.of [] ?_ (by rw [List.append_nil, ← pre_0]; try rfl) (by simp) (by (simp [scL, V.sc]) <;> omega) (hscm _)
    conv => whnf
    exact ⟨rfl, rfl, rfl, rfl, rfl, rfl, rfl⟩
  · intro k _ hk
    have hx := List.getElem?_eq_getElem (l := edges n) (show k < (edges n).length by omega)
    generalize (edges n)[k] = x at hx
    have e := pre_set (N := Sp.length) (k := k) (fluxT n lim p.dt Be Wt Sp) 0
    rw [fluxT_at hx] at e
    have hdz := fun (L : List Int) => depth12_ok (vT := .sl j2 0 Tr.length) (vS := .sl j3 0 Sp.length) (hscm L) (N.more _) (S.s0.app _) (S.s1.app _) (by simp [V.sc]; omega) (by simp [V.sc]; omega) rfl rfl sky step hn hx q0 q1 lim (Sp.getD k 0)
    (conv => whnf); repeat ((first | refine SlF.at (S.s3.app _) (i := k) hk rfl ?_ | refine ⟨_, hdz _, ?_⟩ | refine ⟨_, glength_ok (N.more _) k x hx, ?_⟩ | refine ⟨_, quanta_ok _ _ _ _ _, ?_⟩ | refine br_yes (tab_blt hk) ?_ | refine put_at (blkI64 e) ?_ | refine br_d (by omega) ?_ | rw [getB_app] | rw [getB_app0]); conv => whnf)
    refine Fg.of [] ?_ (by rw [List.append_nil]; try rfl) (by simp) (by (simp [scL, V.sc]) <;> omega) (hscm _)
    conv => whnf
    exact ⟨rfl, rfl, rfl, rfl, rfl, wrapKL (by omega), rfl⟩
  · (conv => whnf); repeat (refine br_nd (by omega) ?_; conv => whnf)
    refine ⟨rfl, [], ?_⟩
    rw [List.append_nil, pre_end]
end
end Go.Proofs.YthoofdnnfahhaaaGreatDoor
