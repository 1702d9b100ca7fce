/- Copied seas of layer 13 that are as they were. No condition. -/
import Derived.Test.YtemaeembndobaaaGreatDoorCw13
import Derived.Test.YtemaeembndobaaaGreatDoorKr
namespace Go.Proofs.YtemaeembndobaaaGreatDoor
open Go Go.Eng
set_option maxRecDepth 100000
set_option linter.unusedSimpArgs false
set_option linter.unusedVariables false

set_option maxHeartbeats 0 in
theorem ints13_eq {M : List Blk} (hsc : scM M.length M = true) {j1 o1 j2 o2 : Nat} {a : List Int} (ha : SlI M j1 o1 a) (hb : SlI M j2 o2 a) : COk Tryz.prog 3 23 [.sl j1 o1 a.length, .sl j2 o2 a.length] M (Bo true) M := by
  have wa := ha.short
  have hj1 := ha.lt
  have hj2 := hb.lt
  refine COk_quiet Tryz.f23 Tryz.func23 (by kernel_rfl) rfl ?_
  (conv => whnf); repeat (first | (refine br_d (by omega) ?_; conv => whnf) | (refine br_nd (by omega) ?_; conv => whnf) | (refine br_eq (by omega) ?_; conv => whnf) | (refine br_neq (by omega) ?_; conv => whnf) | (refine br_ne (by omega) ?_; conv => whnf) | (refine br_no (bo_eqn (by omega)) ?_; conv => whnf) | (refine Or.inl ?_; conv => whnf) | (refine okS_no (by kernel_rfl) ?_; conv => whnf) | (refine okS_yes (by kernel_rfl) ?_; conv => whnf) | (refine And_of (by (conv => whnf); (rw [getB_app0]); (conv => whnf)) ?_; conv => whnf) | (refine setB_app ?_; conv => whnf) | (refine setB_app0 ?_; conv => whnf) | (rw [getB_app]; conv => whnf) | (rw [getB_app0]; conv => whnf) | (refine addB_f13 ?_; conv => whnf) | (refine addB_f12 ?_; conv => whnf) | (refine addB_f11 ?_; conv => whnf) | (refine addB_f10 ?_; conv => whnf) | (refine addB_f9 ?_; conv => whnf) | (refine addB_f8 ?_; conv => whnf) | (refine addB_f7 ?_; conv => whnf) | (refine addB_f6 ?_; conv => whnf) | (refine addB_f5 ?_; conv => whnf) | (refine addB_f4 ?_; conv => whnf) | (refine addB_f3 ?_; conv => whnf) | (refine addB_f2 ?_; conv => whnf) | (refine addB_f1 ?_; conv => whnf) | (refine addB_f0 ?_; conv => whnf))
  refine loop_to (fun k => [.sl j1 o1 a.length, .sl j2 o2 a.length, .any, .any, .any, I k, .any, .any, .any, .any, .any, .any, .any, .any, .any, .any, .any, .any, .any, .any, .any, .any, .any, .any, .any, .any]) (fun _ => M) 0 a.length (Nat.zero_le _) ?_ ?_ ?_
  · refine Fg.of [] ?_ (by rw [List.append_nil]) (by simp) (by (simp [scL, V.sc]) <;> omega) hsc
    conv => whnf
    exact ⟨rfl, rfl, rfl, rfl⟩
  · intro k _ hk
    (conv => whnf); repeat (first | (refine SlI.at ha (i := k) hk rfl ?_; conv => whnf) | (refine SlI.at hb (i := k) hk rfl ?_; conv => whnf) | (refine br_no (bo_eqn rfl) ?_; conv => whnf) | (refine br_d (by omega) ?_; conv => whnf) | (refine br_nd (by omega) ?_; conv => whnf) | (refine br_eq (by omega) ?_; conv => whnf) | (refine br_neq (by omega) ?_; conv => whnf) | (refine br_ne (by omega) ?_; conv => whnf) | (refine br_no (bo_eqn (by omega)) ?_; conv => whnf) | (refine Or.inl ?_; conv => whnf) | (refine okS_no (by kernel_rfl) ?_; conv => whnf) | (refine okS_yes (by kernel_rfl) ?_; conv => whnf) | (refine And_of (by (conv => whnf); (rw [getB_app0]); (conv => whnf)) ?_; conv => whnf) | (refine setB_app ?_; conv => whnf) | (refine setB_app0 ?_; conv => whnf) | (rw [getB_app]; conv => whnf) | (rw [getB_app0]; conv => whnf) | (refine addB_f13 ?_; conv => whnf) | (refine addB_f12 ?_; conv => whnf) | (refine addB_f11 ?_; conv => whnf) | (refine addB_f10 ?_; conv => whnf) | (refine addB_f9 ?_; conv => whnf) | (refine addB_f8 ?_; conv => whnf) | (refine addB_f7 ?_; conv => whnf) | (refine addB_f6 ?_; conv => whnf) | (refine addB_f5 ?_; conv => whnf) | (refine addB_f4 ?_; conv => whnf) | (refine addB_f3 ?_; conv => whnf) | (refine addB_f2 ?_; conv => whnf) | (refine addB_f1 ?_; conv => whnf) | (refine addB_f0 ?_; conv => whnf))
    refine Fg.of [] ?_ (by rw [List.append_nil]) (by simp) (by (simp [scL, V.sc]) <;> omega) hsc
    conv => whnf
    exact ⟨rfl, rfl, wrapKL (by omega), rfl⟩
  · (conv => whnf); repeat (first | (refine br_d (by omega) ?_; conv => whnf) | (refine br_nd (by omega) ?_; conv => whnf) | (refine br_eq (by omega) ?_; conv => whnf) | (refine br_neq (by omega) ?_; conv => whnf) | (refine br_ne (by omega) ?_; conv => whnf) | (refine br_no (bo_eqn (by omega)) ?_; conv => whnf) | (refine Or.inl ?_; conv => whnf) | (refine okS_no (by kernel_rfl) ?_; conv => whnf) | (refine okS_yes (by kernel_rfl) ?_; conv => whnf) | (refine And_of (by (conv => whnf); (rw [getB_app0]); (conv => whnf)) ?_; conv => whnf) | (refine setB_app ?_; conv => whnf) | (refine setB_app0 ?_; conv => whnf) | (rw [getB_app]; conv => whnf) | (rw [getB_app0]; conv => whnf) | (refine addB_f13 ?_; conv => whnf) | (refine addB_f12 ?_; conv => whnf) | (refine addB_f11 ?_; conv => whnf) | (refine addB_f10 ?_; conv => whnf) | (refine addB_f9 ?_; conv => whnf) | (refine addB_f8 ?_; conv => whnf) | (refine addB_f7 ?_; conv => whnf) | (refine addB_f6 ?_; conv => whnf) | (refine addB_f5 ?_; conv => whnf) | (refine addB_f4 ?_; conv => whnf) | (refine addB_f3 ?_; conv => whnf) | (refine addB_f2 ?_; conv => whnf) | (refine addB_f1 ?_; conv => whnf) | (refine addB_f0 ?_; conv => whnf))
    exact ⟨rfl, [], by simp⟩
theorem cpF_end (l : List Nat) : Nat.blt (0 + l.length * 1) (cpF l).length = true := by simp [cpF]
theorem cpI_end (l : List Int) : Nat.blt (0 + l.length * 1) (cpI l).length = true := by simp [cpI]
theorem cpF_mark (l : List Nat) : (cpF l).getD (0 + l.length * 1) 0 = w77 := by
  unfold cpF
  rw [List.getD_eq_getElem?_getD, List.getElem?_append_right (by omega), show 0 + l.length * 1 - l.length = 0 by omega]; rfl
theorem cpI_mark (l : List Int) : (cpI l).getD (0 + l.length * 1) 0 = 77 := by
  unfold cpI
  rw [List.getD_eq_getElem?_getD, List.getElem?_append_right (by omega), show 0 + l.length * 1 - l.length = 0 by omega]; rfl
theorem n77 : fne (some w77) (some w77) = false := by decide +kernel
theorem m77F (l : List Nat) : fne (some ((cpF l).getD (0 + 0 * 1 + l.length * 1) 0)) (some w77) = false := by
  rw [show 0 + 0 * 1 + l.length * 1 = 0 + l.length * 1 by omega, cpF_mark]; exact n77
theorem m77I (l : List Int) : ((cpI l).getD (0 + 0 * 1 + l.length * 1) 0 != 77) = false := by
  rw [show 0 + 0 * 1 + l.length * 1 = 0 + l.length * 1 by omega, cpI_mark]; rfl
set_option maxHeartbeats 0 in
theorem still13_yes {M : List Blk} (hsc : scM M.length M = true) {c0 c1 c2 c3 j0 j1 j2 j3 : Nat} {Be : List Nat} {Wt Tr : List Int} {Sp : List Nat} (S : SeaR M j0 j1 j2 j3 Be Wt Tr Sp) (h0 : Be.length ≤ 65536) (h1 : Wt.length ≤ 65536) (h2 : Tr.length ≤ 65536) (h3 : Sp.length ≤ 65536) (sky step : Int)
    (b0 : getB M c0 = ⟨true, .flts (cpF Be)⟩) (b1 : getB M c1 = ⟨true, .ints .i64 (cpI Wt)⟩) (b2 : getB M c2 = ⟨true, .ints .i64 (cpI Tr)⟩) (b3 : getB M c3 = ⟨true, .flts (cpF Sp)⟩) :
    COk Tryz.prog 3 24 [.agg [.sk c0 0 Be.length (Be.length + 9), .sk c1 0 Wt.length (Wt.length + 9), .sk c2 0 Tr.length (Tr.length + 9), .sk c3 0 Sp.length (Sp.length + 9), .int .i64 sky, I step], seaV j0 j1 j2 j3 Be.length Wt.length Tr.length Sp.length sky step] M (Bo true) M := by
  have l0 := S.s0.lt
  have l1 := S.s1.lt
  have l2 := S.s2.lt
  have l3 := S.s3.lt
  have k0 := getB_lt b0 rfl
  have k1 := getB_lt b1 rfl
  have k2 := getB_lt b2 rfl
  have k3 := getB_lt b3 rfl
  have sc2 : scM (M ++ ([⟨true, .cells [.sk c0 0 Be.length (Be.length + 9), .sk c1 0 Wt.length (Wt.length + 9), .sk c2 0 Tr.length (Tr.length + 9), .sk c3 0 Sp.length (Sp.length + 9), .int .i64 sky, I step]⟩, ⟨true, .cells [.sl j0 0 Be.length, .sl j1 0 Wt.length, .sl j2 0 Tr.length, .sl j3 0 Sp.length, .int .i64 sky, I step]⟩] : List Blk)).length (M ++ ([⟨true, .cells [.sk c0 0 Be.length (Be.length + 9), .sk c1 0 Wt.length (Wt.length + 9), .sk c2 0 Tr.length (Tr.length + 9), .sk c3 0 Sp.length (Sp.length + 9), .int .i64 sky, I step]⟩, ⟨true, .cells [.sl j0 0 Be.length, .sl j1 0 Wt.length, .sl j2 0 Tr.length, .sl j3 0 Sp.length, .int .i64 sky, I step]⟩] : List Blk)) = true := scM_app (scM_mono (by simp) _ hsc) (by simp [scM, B.sc, scL, V.sc]; omega)
  have a0 := COk_sk1 (k := Be.length + 9) (rawAll_eq sc2 ((cop_F b0 S.s0.wf h0).app _) (S.s0.app _))
  have a3 := COk_sk1 (k := Sp.length + 9) (rawAll_eq sc2 ((cop_F b3 S.s3.wf h3).app _) (S.s3.app _))
  have a1 := COk_sk1 (k := Wt.length + 9) (ints13_eq sc2 ((cop_I b1 S.s1.wf h1).app _) (S.s1.app _))
  have a2 := COk_sk1 (k := Tr.length + 9) (ints13_eq sc2 ((cop_I b2 S.s2.wf h2).app _) (S.s2.app _))
  have g0 : ∀ x, getB (M ++ x) c0 = ⟨true, .flts (cpF Be)⟩ := fun x => getB_in b0 rfl
  have g1 : ∀ x, getB (M ++ x) c1 = ⟨true, .ints .i64 (cpI Wt)⟩ := fun x => getB_in b1 rfl
  have g2 : ∀ x, getB (M ++ x) c2 = ⟨true, .ints .i64 (cpI Tr)⟩ := fun x => getB_in b2 rfl
  have g3 : ∀ x, getB (M ++ x) c3 = ⟨true, .flts (cpF Sp)⟩ := fun x => getB_in b3 rfl
  have wr : ∀ k : Nat, k ≤ 65536 → IntKind.i64.wrap ((k : Int) + 1) = ((k + 1 : Nat) : Int) := fun k hk => by rw [wrap_id (by omega) (by omega)]; rfl
  have wr0 := wr _ h0
  have wr1 := wr _ h1
  have wr2 := wr _ h2
  have wr3 := wr _ h3
  refine COk_quiet Tryz.f24 Tryz.func24 (by kernel_rfl) rfl ?_
  (conv => whnf); repeat (first | (rw [wr0]; conv => whnf) | (rw [wr1]; conv => whnf) | (rw [wr2]; conv => whnf) | (rw [wr3]; conv => whnf) | (rw [g0]; conv => whnf) | (rw [g1]; conv => whnf) | (rw [g2]; conv => whnf) | (rw [g3]; conv => whnf) | (refine br_yes (cpF_end _) ?_; conv => whnf) | (refine br_yes (cpI_end _) ?_; conv => whnf) | (refine br_no (m77F _) ?_; conv => whnf) | (refine br_no (m77I _) ?_; conv => whnf) | (refine ⟨_, _, a0, ?_⟩; conv => whnf) | (refine ⟨_, a0, ?_⟩; conv => whnf) | (refine ⟨_, _, a3, ?_⟩; conv => whnf) | (refine ⟨_, a3, ?_⟩; conv => whnf) | (refine ⟨_, _, a1, ?_⟩; conv => whnf) | (refine ⟨_, a1, ?_⟩; conv => whnf) | (refine ⟨_, _, a2, ?_⟩; conv => whnf) | (refine ⟨_, a2, ?_⟩; conv => whnf) | (refine br_d (by omega) ?_; conv => whnf) | (refine br_nd (by omega) ?_; conv => whnf) | (refine br_eq (by omega) ?_; conv => whnf) | (refine br_neq (by omega) ?_; conv => whnf) | (refine br_ne (by omega) ?_; conv => whnf) | (refine br_no (bo_eqn (by omega)) ?_; conv => whnf) | (refine Or.inl ?_; conv => whnf) | (refine okS_no (by kernel_rfl) ?_; conv => whnf) | (refine okS_yes (by kernel_rfl) ?_; conv => whnf) | (refine And_of (by (conv => whnf); (rw [getB_app0]); (conv => whnf)) ?_; conv => whnf) | (refine setB_app ?_; conv => whnf) | (refine setB_app0 ?_; conv => whnf) | (rw [getB_app]; conv => whnf) | (rw [getB_app0]; conv => whnf) | (refine addB_f13 ?_; conv => whnf) | (refine addB_f12 ?_; conv => whnf) | (refine addB_f11 ?_; conv => whnf) | (refine addB_f10 ?_; conv => whnf) | (refine addB_f9 ?_; conv => whnf) | (refine addB_f8 ?_; conv => whnf) | (refine addB_f7 ?_; conv => whnf) | (refine addB_f6 ?_; conv => whnf) | (refine addB_f5 ?_; conv => whnf) | (refine addB_f4 ?_; conv => whnf) | (refine addB_f3 ?_; conv => whnf) | (refine addB_f2 ?_; conv => whnf) | (refine addB_f1 ?_; conv => whnf) | (refine addB_f0 ?_; conv => whnf))
  exact ⟨congrArg V.bool (by simp), _, rfl⟩
end Go.Proofs.YtemaeembndobaaaGreatDoor
