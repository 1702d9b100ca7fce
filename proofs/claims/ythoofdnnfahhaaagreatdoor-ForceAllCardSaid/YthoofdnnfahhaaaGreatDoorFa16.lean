/- Forces of every net, plan and raw sea beside the document's. No condition. -/
import Derived.Test.YthoofdnnfahhaaaGreatDoorFl16
namespace Go.Proofs.YthoofdnnfahhaaaGreatDoor
open Go Go.Eng
set_option maxRecDepth 100000
set_option linter.unusedSimpArgs false
set_option linter.unusedVariables false

theorem RNet.up {M M' : List Blk} {b n : Nat} (h : RNet M b n) (u : Up M M') : RNet M' b n := by
  obtain ⟨x, rfl⟩ := u.ex; exact h.more x
theorem same_f (a : Nat) (m : List Blk) : COk Tryz.prog 3 20 [F a, F a] m (Bo true) m := by
  have := same_ok a a m
  rwa [decide_eq_true rfl] at this
theorem rawAll_nil (M : List Blk) : COk Tryz.prog 3 55 [nilS', nilS'] M (Bo true) M := by
  refine COk_quiet Tryz.f55 Tryz.func55 (by kernel_rfl) rfl ?_
  (conv => whnf)
  refine lr ?_
  (conv => whnf)
  exact ⟨rfl, [], by simp⟩
section
variable {M : List Blk} {b n : Nat} (N : Net M b n) {j0 j1 j2 j3 : Nat} (sky step : Int)
include N
theorem both_bad {n0 n1 n2 n3 : Nat} (e : Int) (h : ¬ Fit n n0 n1 n2 n3 ∨ ¬ (0 ≤ e ∧ e < (edges n).length)) : COk Tryz.prog 3 132 [.ptr (b + 1) 0, seaV j0 j1 j2 j3 n0 n1 n2 n3 sky step, I e] M (.tup [noLk.v, noLk.v, Bo false]) M := by
  by_cases he : 0 ≤ e ∧ e < (edges n).length
  · obtain ⟨k, rfl⟩ : ∃ k : Nat, e = k := ⟨e.toNat, by omega⟩
    obtain ⟨x, hx⟩ : ∃ x, (edges n)[k]? = some x := ⟨_, List.getElem?_eq_getElem (by omega)⟩
    have hf := h.resolve_right fun k => k he
    refine COk_quiet Tryz.f132 Tryz.func132 (by kernel_rfl) rfl ?_
    (conv => whnf); repeat ((first | refine ⟨_, _, edge_ok (N.more _) k x hx, ?_⟩ | refine ⟨_, _, ffits_no (N.more _) sky step hf, ?_⟩ | refine setB_app ?_ | rw [getB_app] | rw [getB_app0] | refine addB_f3 ?_ | refine addB_f2 ?_ | refine addB_f1 ?_ | refine addB_f0 ?_); conv => whnf)
    exact ⟨rfl, _, rfl⟩
  · refine COk_quiet Tryz.f132 Tryz.func132 (by kernel_rfl) rfl ?_
    (conv => whnf); repeat ((first | refine ⟨_, _, edge_no (N.more _) e he, ?_⟩ | refine setB_app ?_ | rw [getB_app] | refine addB_f3 ?_ | refine addB_f2 ?_ | refine addB_f1 ?_ | refine addB_f0 ?_); conv => whnf)
    exact ⟨rfl, _, rfl⟩
theorem Open_bad {n0 n1 n2 n3 : Nat} (e : Int) (h : ¬ Fit n n0 n1 n2 n3 ∨ ¬ (0 ≤ e ∧ e < (edges n).length)) : COk Tryz.prog 3 52 [.ptr (b + 1) 0, seaV j0 j1 j2 j3 n0 n1 n2 n3 sky step, I e] M (Bo false) M := by
  refine COk_quiet Tryz.f52 Tryz.func52 (by kernel_rfl) rfl ?_
  (conv => whnf); repeat ((first | refine ⟨_, _, both_bad (N.more _) sky step e h, ?_⟩ | refine setB_app ?_ | rw [getB_app] | rw [getB_app0] | refine addB_f2 ?_ | refine addB_f1 ?_ | refine addB_f0 ?_); conv => whnf)
  exact ⟨rfl, _, rfl⟩
theorem speed_bad {n0 n1 n2 n3 : Nat} (e : Int) (h : ¬ Fit n n0 n1 n2 n3 ∨ ¬ (0 ≤ e ∧ e < (edges n).length)) (side : Int) (p : PlF) (lim : Int) (riv : Bool) (ra : Option Addr) (rl rc : Nat) : COk Tryz.prog 3 131 [.ptr (b + 1) 0, planV side p lim riv ra rl rc, seaV j0 j1 j2 j3 n0 n1 n2 n3 sky step, I e] M (F 0) M := by
  refine COk_quiet Tryz.f131 Tryz.func131 (by kernel_rfl) rfl ?_
  (conv => whnf); repeat ((first | refine ⟨_, _, both_bad (N.more _) sky step e h, ?_⟩ | refine setB_app ?_ | rw [getB_app] | refine addB_f3 ?_ | refine addB_f2 ?_ | refine addB_f1 ?_ | refine addB_f0 ?_); conv => whnf)
  exact ⟨rfl, _, rfl⟩
theorem Speed_bad {n0 n1 n2 n3 : Nat} (e : Int) (h : ¬ Fit n n0 n1 n2 n3 ∨ ¬ (0 ≤ e ∧ e < (edges n).length)) (side : Int) (p : PlF) (lim : Int) (riv : Bool) (ra : Option Addr) (rl rc : Nat) : COk Tryz.prog 3 53 [.ptr (b + 1) 0, planV side p lim riv ra rl rc, seaV j0 j1 j2 j3 n0 n1 n2 n3 sky step, I e] M (F 0) M := by
  refine COk_quiet Tryz.f53 Tryz.func53 (by kernel_rfl) rfl ?_
  (conv => whnf); repeat ((first | refine ⟨_, _, speed_bad (N.more _) sky step e h side p lim riv ra rl rc, ?_⟩ | rw [getB_app] | rw [getB_app0] | refine addB_f1 ?_ | refine addB_f0 ?_); conv => whnf)
  exact ⟨rfl, _, rfl⟩
theorem Speeds_bad {n0 n1 n2 n3 : Nat} (hf : ¬ Fit n n0 n1 n2 n3) (side : Int) (p : PlF) (lim : Int) (riv : Bool) (ra : Option Addr) (rl rc : Nat) : COk Tryz.prog 3 51 [.ptr (b + 1) 0, planV side p lim riv ra rl rc, seaV j0 j1 j2 j3 n0 n1 n2 n3 sky step] M (.tup [nilS', I 1]) M := by
  refine COk_quiet Tryz.f51 Tryz.func51 (by kernel_rfl) rfl ?_
  (conv => whnf); repeat ((first | refine ⟨_, _, ffits_no (N.more _) sky step hf, ?_⟩ | rw [getB_app] | refine addB_f1 ?_ | refine addB_f0 ?_); conv => whnf)
  exact ⟨rfl, _, rfl⟩
end
section
variable {M : List Blk} {j0 j1 j2 j3 n0 n1 n2 n3 : Nat} (sky step e : Int) (side : Int) (p : PlF) (lim : Int) (riv : Bool) (ra : Option Addr) (rl rc : Nat)
theorem both_nil : COk Tryz.prog 3 132 [nilP, seaV j0 j1 j2 j3 n0 n1 n2 n3 sky step, I e] M (.tup [noLk.v, noLk.v, Bo false]) M := by
  refine COk_quiet Tryz.f132 Tryz.func132 (by kernel_rfl) rfl ?_
  (conv => whnf); repeat ((first | refine ⟨_, _, nil_edge e _, ?_⟩ | refine setB_app ?_ | rw [getB_app] | refine addB_f3 ?_ | refine addB_f2 ?_ | refine addB_f1 ?_ | refine addB_f0 ?_); conv => whnf)
  exact ⟨rfl, _, rfl⟩
theorem Open_nil : COk Tryz.prog 3 52 [nilP, seaV j0 j1 j2 j3 n0 n1 n2 n3 sky step, I e] M (Bo false) M := by
  refine COk_quiet Tryz.f52 Tryz.func52 (by kernel_rfl) rfl ?_
  (conv => whnf); repeat ((first | refine ⟨_, _, both_nil sky step e, ?_⟩ | refine setB_app ?_ | rw [getB_app] | rw [getB_app0] | refine addB_f2 ?_ | refine addB_f1 ?_ | refine addB_f0 ?_); conv => whnf)
  exact ⟨rfl, _, rfl⟩
theorem Speed_nil : COk Tryz.prog 3 53 [nilP, planV side p lim riv ra rl rc, seaV j0 j1 j2 j3 n0 n1 n2 n3 sky step, I e] M (F 0) M := by
  refine COk_quiet Tryz.f53 Tryz.func53 (by kernel_rfl) rfl ?_
  (conv => whnf); repeat ((first | refine addB_f1 ?_ | refine addB_f0 ?_); conv => whnf)
  exact ⟨rfl, _, rfl⟩
theorem Speeds_nil : COk Tryz.prog 3 51 [nilP, planV side p lim riv ra rl rc, seaV j0 j1 j2 j3 n0 n1 n2 n3 sky step] M (.tup [nilS', I 2]) M := by
  refine COk_quiet Tryz.f51 Tryz.func51 (by kernel_rfl) rfl ?_
  (conv => whnf); repeat ((first | refine addB_f1 ?_ | refine addB_f0 ?_); conv => whnf)
  exact ⟨rfl, _, rfl⟩
end
set_option maxHeartbeats 0 in
theorem all16_ok {M : List Blk} (hm : Top M) (hsc : scM M.length M = true) (x : Int) (side : Int) (p : PlF) (lim : Int) (riv : Bool) (ra : Option Addr) (rl rc : Nat) {w : Bool} {j0 j1 j2 j3 : Nat} {Be : List Nat} {Wt Tr : List Int} {Sp : List Nat} (S : SeaB M w j0 j1 j2 j3 Be Wt Tr Sp) (sky step : Int) (e : Int) :
    COk Tryz.prog 3 9 [I x, planV side p lim riv ra rl rc, seaV j0 j1 j2 j3 Be.length Wt.length Tr.length Sp.length sky step, I e] M (Bo true) M := by
  have l0 := S.read.s0.lt
  have l1 := S.read.s1.lt
  have l2 := S.read.s2.lt
  have l3 := S.read.s3.lt
  have u0 : Up M (M ++ ([plC side p lim riv ra rl rc, seC j0 j1 j2 j3 Be.length Wt.length Tr.length Sp.length sky step] : List Blk)) := Up.of hsc (by simp [scM, B.sc, scL, V.sc]; omega)
  have hlv := lives16_ok (hm.up u0) u0.sc
  have nl1 := fun M => Speeds_nil (M := M) (j0 := j0) (j1 := j1) (j2 := j2) (j3 := j3) (n0 := Be.length) (n1 := Wt.length) (n2 := Tr.length) (n3 := Sp.length) sky step side p lim riv ra rl rc
  have nl2 := fun M => Open_nil (M := M) (j0 := j0) (j1 := j1) (j2 := j2) (j3 := j3) (n0 := Be.length) (n1 := Wt.length) (n2 := Tr.length) (n3 := Sp.length) sky step e
  have nl3 := fun M => Speed_nil (M := M) (j0 := j0) (j1 := j1) (j2 := j2) (j3 := j3) (n0 := Be.length) (n1 := Wt.length) (n2 := Tr.length) (n3 := Sp.length) sky step e side p lim riv ra rl rc
  have box : ∀ {M' : List Blk}, (∃ y, M' = (M ++ ([plC side p lim riv ra rl rc, seC j0 j1 j2 j3 Be.length Wt.length Tr.length Sp.length sky step] : List Blk)) ++ y) → getB M' M.length = plC side p lim riv ra rl rc ∧ getB M' (M.length + 1) = seC j0 j1 j2 j3 Be.length Wt.length Tr.length Sp.length sky step := by
    rintro M' ⟨y, rfl⟩
    rw [List.append_assoc]
    exact ⟨getB_app0, getB_app 1⟩
  by_cases hs : 1 ≤ x ∧ x ≤ 32
  · obtain ⟨n, rfl⟩ : ∃ n : Nat, x = n := ⟨x.toNat, by omega⟩
    have hn1 : 1 ≤ n := by omega
    have hn2 : n ≤ 32 := by omega
    obtain ⟨b, M1, hnew, N, u1⟩ := new_up (hm.up u0) u0.sc n hn1 hn2
    have hm1 := (hm.up u0).up u1
    obtain ⟨b', M2, hrnew, R, u2⟩ := rnew_up hm1 u1.sc n hn1 hn2
    have hm2 := hm1.up u2
    have hs2 := u2.sc
    have N := N.up u2
    have ux := (u0.trans u1).trans u2
    have hlen := ux.len
    have S2 := S.read.up ux
    have g2 := box (u1.trans u2).ex
    by_cases hf : Fit n Be.length Wt.length Tr.length Sp.length
    · obtain ⟨M3, hA, u3, T1⟩ := Speeds_ok hs2 N S2 sky step hf hn1 hn2 side p lim riv ra rl rc
      have T1 := SlF.tab T1 (fun i hi => speedT_in n p Be Wt Sp i) S2.s3.short
      have S3 := S2.up u3
      have g3 := box ((u1.trans u2).trans u3).ex
      obtain ⟨M4, hB, u4, T2⟩ := rSpeeds_up (hm2.up u3) u3.sc (R.up u3) S3 sky step hf hn1 hn2 side p lim riv ra rl rc
      have g4 := box (((u1.trans u2).trans u3).trans u4).ex
      have hC := rawAll_eq u4.sc (T1.up u4) T2
      rw [tab_len] at hC
      have hm4 := (hm2.up u3).up u4
      have N4 := (N.up u3).up u4
      have R4 := (R.up u3).up u4
      have S4 := S3.up u4
      have hs4 := u4.sc
      have hl4 := ((ux.trans u3).trans u4).len
      have hl5 := u3.len
      have hl6 := T2.lt
      have k0 := N4.lt
      have k1 := R4.lt
      have hB4 : ∃ (bo : Bool) (v : Nat), COk Tryz.prog 3 52 [.ptr (b + 1) 0, seaV j0 j1 j2 j3 Be.length Wt.length Tr.length Sp.length sky step, I e] M4 (Bo bo) M4 ∧ COk Tryz.prog 3 56 [.ptr (b' + 1) 0, seaV j0 j1 j2 j3 Be.length Wt.length Tr.length Sp.length sky step, I e] M4 (Bo bo) M4 ∧
          COk Tryz.prog 3 53 [.ptr (b + 1) 0, planV side p lim riv ra rl rc, seaV j0 j1 j2 j3 Be.length Wt.length Tr.length Sp.length sky step, I e] M4 (F v) M4 ∧ COk Tryz.prog 3 57 [.ptr (b' + 1) 0, planV side p lim riv ra rl rc, seaV j0 j1 j2 j3 Be.length Wt.length Tr.length Sp.length sky step, I e] M4 (F v) M4 := by
        by_cases he : 0 ≤ e ∧ e < (edges n).length
        · obtain ⟨k, rfl⟩ : ∃ k : Nat, e = k := ⟨e.toNat, by omega⟩
          obtain ⟨y, hy⟩ : ∃ y, (edges n)[k]? = some y := ⟨_, List.getElem?_eq_getElem (by omega)⟩
          exact ⟨_, _, Open_ok N4 S4 sky step hf hn1 hy, rOpen_ok hm4 R4 hn1 hn2 S4 sky step hf hy, Speed_ok N4 S4 sky step hf side p lim riv ra rl rc hn1 hy, rSpeed_ok hm4 R4 hn1 hn2 S4 sky step hf side p lim riv ra rl rc hy⟩
        · exact ⟨_, _, Open_bad N4 sky step e (.inr he), rOpen_no R4 hn1 hn2 sky step hf e he, Speed_bad N4 sky step e (.inr he) side p lim riv ra rl rc, rSpeed_nf R4 hn1 hn2 sky step e (.inr he) side p lim riv ra rl rc⟩
      obtain ⟨bo, v, q1, q2, q3, q4⟩ := hB4
      have hd := hf.d
      have hshort := S4.s3.short
      refine COk_quiet Tryz.f9 Tryz.func9 (by kernel_rfl) rfl ?_
      (conv => whnf); repeat ((first | refine ⟨_, _, hlv, ?_⟩ | refine ⟨_, _, nl1 _, ?_⟩ | refine ⟨_, _, nl2 _, ?_⟩ | refine ⟨_, _, nl3 _, ?_⟩ | refine ⟨_, _, same_f _ _, ?_⟩ | refine ⟨_, _, hnew, ?_⟩ | refine ⟨_, _, hrnew, ?_⟩ | rw [g2.1] | rw [g2.2] | rw [g3.1] | rw [g3.2] | refine ⟨_, _, hA, ?_⟩ | refine ⟨_, _, hB, ?_⟩ | refine ⟨_, _, hC, ?_⟩ | rw [getB_app] | rw [getB_app0] | refine addB_f1 ?_ | refine addB_f0 ?_); conv => whnf)
      clear hlv nl1 nl2 nl3 hnew hrnew hA hB hC
      refine loop_to (fun k => [.any, .any, .any, I e, .any, .ptr M.length 0, .ptr (M.length + 1) 0, .any, .any, .any, .any, .ptr (b + 1) 0, .ptr (b' + 1) 0, .any, .any, .sl (M3.length + 3) 0 Sp.length, I k, .any, .any, .any, .any, .any, .any, .any, .any, .any, .any, .any, .any, .any, .any, .any, .any, .any, .any, .any, .any, .any, .any, .any, .any, .any, .any, .any, .any, .any, .any, .any, .any, .any, .any, .any, .any, .any, .any, .any, .any, .any, .any, .any, .any, .any, .any, .any, .any, .any, .any, .any, .any, .any, .any, .any, .any, .any, .any, .any, .any, .any, .any, .any, .any, .any, .any, .any, .any, .any, .any, .any, .any, .any, .any, .any, .any, .any, .any, .any, .any, .any, .any, .any, .any, .any, .any, .any, .any, .any, .any, .any, .any, .any, .any, .any, .any, .any, .any, .any, .any, .any, .any, .any, .any, .any, .any, .any, .any, .any, .any, .any, .any, .any, .any, .any, .any, .any, .any, .any, .any, .any]) (fun _ => M4) 0 Sp.length (Nat.zero_le _) ?_ ?_ ?_
      · refine Fg.of [] ?_ (by rw [List.append_nil]) (by simp) (by (simp [scL, V.sc]) <;> omega) hs4
        conv => whnf
        exact ⟨rfl, rfl, rfl, rfl, rfl, rfl, rfl, rfl⟩
      · intro k _ hk
        obtain ⟨y, hy⟩ : ∃ y, (edges n)[k]? = some y := ⟨_, List.getElem?_eq_getElem (by omega)⟩
        have r1 := Open_ok N4 S4 sky step hf hn1 hy
        have r2 := rOpen_ok hm4 R4 hn1 hn2 S4 sky step hf hy
        have r3 := Speed_ok N4 S4 sky step hf side p lim riv ra rl rc hn1 hy
        have hv : (tab Sp.length (speedT n p Be Wt Sp)).getD k 0 = speedE n p Be Wt Sp k y := by rw [tab_get hk, speedT_at hy]
        have sm := fun m => same_f (speedE n p Be Wt Sp k y) m
        rw [← hv] at r3 sm
        generalize openL (lk n Be Wt y.1) (lk n Be Wt y.2.2.1) = ob at r1 r2
        cases ob
        all_goals
          (conv => whnf); repeat ((first | rw [g4.1] | rw [g4.2] | refine ⟨_, r1, ?_⟩ | refine ⟨_, r2, ?_⟩ | refine ⟨_, r3, ?_⟩ | refine SlF.at T2 (i := k) (by rw [tab_len]; exact hk) rfl ?_ | refine ⟨_, sm _, ?_⟩ | refine br_d (by omega) ?_); conv => whnf)
          refine Fg.of [] ?_ (by rw [List.append_nil]) (by simp) (by (simp [scL, V.sc]) <;> omega) hs4
          conv => whnf
          exact ⟨rfl, rfl, rfl, rfl, rfl, rfl, wrapKL (by omega), rfl⟩
      · cases bo
        all_goals
          (conv => whnf); repeat ((first | rw [g4.1] | rw [g4.2] | refine ⟨_, q1, ?_⟩ | refine ⟨_, q2, ?_⟩ | refine ⟨_, q3, ?_⟩ | refine ⟨_, q4, ?_⟩ | refine ⟨_, same_f _ _, ?_⟩ | refine br_nd (by omega) ?_); conv => whnf)
          exact ⟨rfl, ((ux.trans u3).trans u4).ex⟩
    · have hA := Speeds_bad N sky step (j0 := j0) (j1 := j1) (j2 := j2) (j3 := j3) hf side p lim riv ra rl rc
      have hB := rSpeeds_no R hn1 hn2 (j0 := j0) (j1 := j1) (j2 := j2) (j3 := j3) sky step hf side p lim riv ra rl rc
      have q1 := Open_bad N sky step (j0 := j0) (j1 := j1) (j2 := j2) (j3 := j3) e (.inl hf)
      have q2 := rOpen_nf R hn1 hn2 (j0 := j0) (j1 := j1) (j2 := j2) (j3 := j3) sky step hf e
      have q3 := Speed_bad N sky step (j0 := j0) (j1 := j1) (j2 := j2) (j3 := j3) e (.inl hf) side p lim riv ra rl rc
      have q4 := rSpeed_nf R hn1 hn2 (j0 := j0) (j1 := j1) (j2 := j2) (j3 := j3) sky step e (.inl hf) side p lim riv ra rl rc
      refine COk_quiet Tryz.f9 Tryz.func9 (by kernel_rfl) rfl ?_
      (conv => whnf); repeat ((first | refine ⟨_, _, hlv, ?_⟩ | refine ⟨_, _, nl1 _, ?_⟩ | refine ⟨_, _, nl2 _, ?_⟩ | refine ⟨_, _, nl3 _, ?_⟩ | refine ⟨_, _, same_f _ _, ?_⟩ | refine ⟨_, _, hnew, ?_⟩ | refine ⟨_, _, hrnew, ?_⟩ | rw [g2.1] | rw [g2.2] | refine ⟨_, _, hA, ?_⟩ | refine ⟨_, _, hB, ?_⟩ | refine ⟨_, _, rawAll_nil _, ?_⟩ | rw [getB_app] | rw [getB_app0] | refine addB_f1 ?_ | refine addB_f0 ?_); conv => whnf)
      refine lr ?_
      (conv => whnf); repeat ((first | rw [g2.1] | rw [g2.2] | refine ⟨_, q1, ?_⟩ | refine ⟨_, q2, ?_⟩ | refine ⟨_, q3, ?_⟩ | refine ⟨_, q4, ?_⟩ | refine ⟨_, same_f _ _, ?_⟩); conv => whnf)
      exact ⟨rfl, ux.ex⟩
  · have hnew := new_no x hs (M ++ ([plC side p lim riv ra rl rc, seC j0 j1 j2 j3 Be.length Wt.length Tr.length Sp.length sky step] : List Blk))
    have hrnew := rnew_no x hs (M ++ ([plC side p lim riv ra rl rc, seC j0 j1 j2 j3 Be.length Wt.length Tr.length Sp.length sky step] : List Blk))
    refine COk_quiet Tryz.f9 Tryz.func9 (by kernel_rfl) rfl ?_
    (conv => whnf); repeat ((first | refine ⟨_, _, hlv, ?_⟩ | refine ⟨_, _, nl1 _, ?_⟩ | refine ⟨_, _, nl2 _, ?_⟩ | refine ⟨_, _, nl3 _, ?_⟩ | refine ⟨_, _, same_f _ _, ?_⟩ | refine ⟨_, _, hnew, ?_⟩ | refine ⟨_, _, hrnew, ?_⟩ | rw [getB_app] | rw [getB_app0] | refine addB_f1 ?_ | refine addB_f0 ?_); conv => whnf)
    exact ⟨rfl, _, rfl⟩
end Go.Proofs.YthoofdnnfahhaaaGreatDoor
