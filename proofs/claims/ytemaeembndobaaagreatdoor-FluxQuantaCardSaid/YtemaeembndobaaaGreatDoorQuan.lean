/- What flows, of all floats, beside the document's answer. No condition. -/
import Derived.Test.YtemaeembndobaaaGreatDoorQ5
import Derived.Test.YtemaeembndobaaaGreatDoorRf
import Derived.Test.YtemaeembndobaaaGreatDoorLi13
namespace Go.Proofs.YtemaeembndobaaaGreatDoor
open Go Go.Eng
set_option maxRecDepth 100000
set_option linter.unusedSimpArgs false
set_option linter.unusedVariables false

set_option maxHeartbeats 0 in
theorem quan13_ok {M : List Blk} (hm : Top M) (hsc : scM M.length M = true) {j n : Nat} {w : Bool} {l : List Nat} (hb : getB M j = ⟨w, .flts l⟩) (hw : ∀ i, i < l.length → inF (l.getD i 0)) (hl : l.length = 4 * n) (hn : n ≤ 17592186044416) : COk Tryz.prog 3 7 [.sl j 0 n] M (Bo true) M := by
  have hj : j < M.length := getB_lt hb rfl
  have hlv := lives13_ok hm hsc
  have S : SlF M j 0 l := SlF.flts hb (fun i hi => ⟨by omega, by rw [Nat.zero_add]⟩) hw (by omega)
  refine COk_quiet Tryz.f7 Tryz.func7 (by kernel_rfl) rfl ?_
  (conv => whnf); repeat (first | (refine ⟨_, _, hlv, ?_⟩; conv => whnf) | (refine ⟨_, hlv, ?_⟩; conv => whnf) | (refine br_d (by omega) ?_; conv => whnf) | (refine br_nd (by omega) ?_; conv => whnf) | (refine br_eq (by omega) ?_; conv => whnf) | (refine br_neq (by omega) ?_; conv => whnf) | (refine br_ne (by omega) ?_; conv => whnf) | (refine br_no (bo_eqn (by omega)) ?_; conv => whnf) | (refine Or.inl ?_; conv => whnf) | (refine okS_no (by kernel_rfl) ?_; conv => whnf) | (refine okS_yes (by kernel_rfl) ?_; conv => whnf) | (refine And_of (by (conv => whnf); (rw [getB_app0]); (conv => whnf)) ?_; conv => whnf) | (refine setB_app ?_; conv => whnf) | (refine setB_app0 ?_; conv => whnf) | (rw [getB_app]; conv => whnf) | (rw [getB_app0]; conv => whnf) | (refine addB_f13 ?_; conv => whnf) | (refine addB_f12 ?_; conv => whnf) | (refine addB_f11 ?_; conv => whnf) | (refine addB_f10 ?_; conv => whnf) | (refine addB_f9 ?_; conv => whnf) | (refine addB_f8 ?_; conv => whnf) | (refine addB_f7 ?_; conv => whnf) | (refine addB_f6 ?_; conv => whnf) | (refine addB_f5 ?_; conv => whnf) | (refine addB_f4 ?_; conv => whnf) | (refine addB_f3 ?_; conv => whnf) | (refine addB_f2 ?_; conv => whnf) | (refine addB_f1 ?_; conv => whnf) | (refine addB_f0 ?_; conv => whnf))
  refine loop_to (fun k => [.sl j 0 n, .any, .any, I k, .any, .any, .any, .any, .any, .any, .any, .any, .any, .any, .any, .any, .any, .any, .any, .any, .any, .any, .any, .any, .any, .any, .any, .any, .any, .any, .any, .any, .any, .any, .any, .any]) (fun _ => M) 0 n (Nat.zero_le _) ?_ ?_ ?_
  · refine Fg.of [] ?_ (by rw [List.append_nil]) (by simp) (by (simp [scL, V.sc]) <;> omega) hsc
    conv => whnf
    exact ⟨rfl, rfl, rfl⟩
  · intro k _ hk
    have c4 : Tryz.prog.cellsOf 24 = 4 := by kernel_rfl
    have e0 : 0 + ((k : Nat) : Int).toNat * Tryz.prog.cellsOf 24 = 0 + 4 * k * 1 := by rw [c4, Int.toNat_natCast]; omega
    have e1 : 0 + ((k : Nat) : Int).toNat * Tryz.prog.cellsOf 24 + 1 = 0 + (4 * k + 1) * 1 := by rw [c4, Int.toNat_natCast]; omega
    have e2 : 0 + ((k : Nat) : Int).toNat * Tryz.prog.cellsOf 24 + 1 + 1 = 0 + (4 * k + 2) * 1 := by rw [c4, Int.toNat_natCast]; omega
    have e3 : 0 + ((k : Nat) : Int).toNat * Tryz.prog.cellsOf 24 + 1 + 1 + 1 = 0 + (4 * k + 3) * 1 := by rw [c4, Int.toNat_natCast]; omega
    have h0 := fun m => quanta_ok (l.getD (4 * k) 0) (l.getD (4 * k + 1) 0) (l.getD (4 * k + 2) 0) (l.getD (4 * k + 3) 0) m
    have h1 := fun m => refquanta_ok (l.getD (4 * k) 0) (l.getD (4 * k + 1) 0) (l.getD (4 * k + 2) 0) (l.getD (4 * k + 3) 0) m
    (conv => whnf); repeat (first | (refine SlF.at S (i := 4 * k) (by omega) e0 ?_; conv => whnf) | (refine SlF.at S (i := 4 * k + 1) (by omega) e1 ?_; conv => whnf) | (refine SlF.at S (i := 4 * k + 2) (by omega) e2 ?_; conv => whnf) | (refine SlF.at S (i := 4 * k + 3) (by omega) e3 ?_; conv => whnf) | (refine ⟨_, _, h0 _, ?_⟩; conv => whnf) | (refine ⟨_, h0 _, ?_⟩; conv => whnf) | (refine ⟨_, _, h1 _, ?_⟩; conv => whnf) | (refine ⟨_, h1 _, ?_⟩; conv => whnf) | (refine br_no (bo_eqn rfl) ?_; conv => whnf) | (refine br_d (by omega) ?_; conv => whnf) | (refine br_nd (by omega) ?_; conv => whnf) | (refine br_eq (by omega) ?_; conv => whnf) | (refine br_neq (by omega) ?_; conv => whnf) | (refine br_ne (by omega) ?_; conv => whnf) | (refine br_no (bo_eqn (by omega)) ?_; conv => whnf) | (refine Or.inl ?_; conv => whnf) | (refine okS_no (by kernel_rfl) ?_; conv => whnf) | (refine okS_yes (by kernel_rfl) ?_; conv => whnf) | (refine And_of (by (conv => whnf); (rw [getB_app0]); (conv => whnf)) ?_; conv => whnf) | (refine setB_app ?_; conv => whnf) | (refine setB_app0 ?_; conv => whnf) | (rw [getB_app]; conv => whnf) | (rw [getB_app0]; conv => whnf) | (refine addB_f13 ?_; conv => whnf) | (refine addB_f12 ?_; conv => whnf) | (refine addB_f11 ?_; conv => whnf) | (refine addB_f10 ?_; conv => whnf) | (refine addB_f9 ?_; conv => whnf) | (refine addB_f8 ?_; conv => whnf) | (refine addB_f7 ?_; conv => whnf) | (refine addB_f6 ?_; conv => whnf) | (refine addB_f5 ?_; conv => whnf) | (refine addB_f4 ?_; conv => whnf) | (refine addB_f3 ?_; conv => whnf) | (refine addB_f2 ?_; conv => whnf) | (refine addB_f1 ?_; conv => whnf) | (refine addB_f0 ?_; conv => whnf))
    refine Fg.of [⟨true, .cells [F (l.getD (4 * k) 0), F (l.getD (4 * k + 1) 0), F (l.getD (4 * k + 2) 0), F (l.getD (4 * k + 3) 0)]⟩] ?_ rfl (by simp) (by (simp [scL, V.sc]) <;> omega) hsc
    conv => whnf
    exact ⟨rfl, wrapKL (by omega), rfl⟩
  · (conv => whnf); repeat (first | (refine br_d (by omega) ?_; conv => whnf) | (refine br_nd (by omega) ?_; conv => whnf) | (refine br_eq (by omega) ?_; conv => whnf) | (refine br_neq (by omega) ?_; conv => whnf) | (refine br_ne (by omega) ?_; conv => whnf) | (refine br_no (bo_eqn (by omega)) ?_; conv => whnf) | (refine Or.inl ?_; conv => whnf) | (refine okS_no (by kernel_rfl) ?_; conv => whnf) | (refine okS_yes (by kernel_rfl) ?_; conv => whnf) | (refine And_of (by (conv => whnf); (rw [getB_app0]); (conv => whnf)) ?_; conv => whnf) | (refine setB_app ?_; conv => whnf) | (refine setB_app0 ?_; conv => whnf) | (rw [getB_app]; conv => whnf) | (rw [getB_app0]; conv => whnf) | (refine addB_f13 ?_; conv => whnf) | (refine addB_f12 ?_; conv => whnf) | (refine addB_f11 ?_; conv => whnf) | (refine addB_f10 ?_; conv => whnf) | (refine addB_f9 ?_; conv => whnf) | (refine addB_f8 ?_; conv => whnf) | (refine addB_f7 ?_; conv => whnf) | (refine addB_f6 ?_; conv => whnf) | (refine addB_f5 ?_; conv => whnf) | (refine addB_f4 ?_; conv => whnf) | (refine addB_f3 ?_; conv => whnf) | (refine addB_f2 ?_; conv => whnf) | (refine addB_f1 ?_; conv => whnf) | (refine addB_f0 ?_; conv => whnf))
    exact ⟨rfl, [], by simp⟩
end Go.Proofs.YtemaeembndobaaaGreatDoor
