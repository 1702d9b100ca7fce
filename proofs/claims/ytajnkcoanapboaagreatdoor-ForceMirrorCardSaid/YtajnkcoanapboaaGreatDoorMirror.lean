/- The statement ForceMirror: its contract. No condition. -/
import Derived.Test.YtajnkcoanapboaaGreatDoorLi6
import Derived.Test.YtajnkcoanapboaaGreatDoorCw
import Derived.Test.YtajnkcoanapboaaGreatDoorFq
namespace Go.Proofs.YtajnkcoanapboaaGreatDoor
open Go Go.Eng
set_option maxRecDepth 100000
set_option linter.unusedSimpArgs false
set_option linter.unusedVariables false

theorem neg_in {s : Nat} (h : s < 18446744073709551616) : Op.negFloat .f64 s < 18446744073709551616 := by
  by_cases h1 : 9223372036854775808 ≤ s
  · rw [show s = wd true (s - 9223372036854775808) by rw [wd_true]; omega, neg_wd true (by omega)]
    show wd false _ < _
    rw [wd_false]; omega
  · rw [show s = wd false s from rfl, neg_wd false (by omega)]
    show wd true _ < _
    rw [wd_true]; omega
set_option maxHeartbeats 0 in
theorem mirror16_ok {M : List Blk} (hm : Top M) (hsc : scM M.length M = true) (x : Int) (side : Int) (p : PlF) (lim : Int) (riv : Bool) (ra : Option Addr) (rl rc : Nat) {w : Bool} {j0 j1 j2 j3 : Nat} {Be : List Nat} {Wt Tr : List Int} {Sp : List Nat} (S : SeaB M w j0 j1 j2 j3 Be Wt Tr Sp) (sky step : Int) (e : Int) :
    COk Tryz.prog 3 4 [I x, planV side p lim riv ra rl rc, seaV j0 j1 j2 j3 Be.length Wt.length Tr.length Sp.length sky step, I e] M (Bo true) M := by
  have l0 := S.read.s0.lt
  have l1 := S.read.s1.lt
  have l2 := S.read.s2.lt
  have l3 := S.read.s3.lt
  have u0 : Up M (M ++ ([⟨true, .cells [I side, F p.dt, F p.gr, F p.dr, I lim, Bo riv, .raw (.slice ra rl rc)]⟩, ⟨true, .cells [.sl j0 0 Be.length, .sl j1 0 Wt.length, .sl j2 0 Tr.length, .sl j3 0 Sp.length, .int .i64 sky, I step]⟩] : List Blk)) := Up.of hsc (by simp [scM, B.sc, scL, V.sc]; omega)
  have hlv := lives16_ok (hm.up u0) u0.sc
  have hlen0 := u0.len
  have hl2 : (M ++ ([⟨true, .cells [I side, F p.dt, F p.gr, F p.dr, I lim, Bo riv, .raw (.slice ra rl rc)]⟩, ⟨true, .cells [.sl j0 0 Be.length, .sl j1 0 Wt.length, .sl j2 0 Tr.length, .sl j3 0 Sp.length, .int .i64 sky, I step]⟩] : List Blk)).length = M.length + 2 := by simp
  by_cases h : ∃ n : Nat, x = n ∧ 1 ≤ n ∧ n ≤ 32 ∧ Fit n Be.length Wt.length Tr.length Sp.length
  · obtain ⟨n, rfl, hn, hn', hf⟩ := h
    obtain ⟨b, M1, hnet, hN, u1⟩ := net16_yes (j0 := j0) (j1 := j1) (j2 := j2) (j3 := j3) (hm.up u0) u0.sc hn hn' (by omega) (by omega) (by omega) (by omega) sky step hf
    have S0 := S.up (u0.trans u1)
    have S1 := S0.read
    have hP : ∀ y, getB (M1 ++ y) M.length = ⟨true, .cells [I side, F p.dt, F p.gr, F p.dr, I lim, Bo riv, .raw (.slice ra rl rc)]⟩ := fun y => by
      obtain ⟨z, rfl⟩ := u1.ex
      exact getB_in (getB_in getB_app0 rfl) rfl
    have hS : ∀ y, getB (M1 ++ y) (M.length + 1) = ⟨true, .cells [.sl j0 0 Be.length, .sl j1 0 Wt.length, .sl j2 0 Tr.length, .sl j3 0 Sp.length, .int .i64 sky, I step]⟩ := fun y => by
      obtain ⟨z, rfl⟩ := u1.ex
      exact getB_in (getB_in (getB_app 1) rfl) rfl
    have hS0 := hS []
    rw [List.append_nil] at hS0
    have hlen := u1.len
    have hb := hN.lt
    have hsp := hf.d
    have hel := edges_len hn
    have hsq : n * n ≤ 1024 := Nat.mul_le_mul hn' hn'
    have q0 := hf.a
    have q1 := hf.b
    have q2 := hf.c
    by_cases he : 0 ≤ e ∧ e < (edges n).length
    · obtain ⟨k, rfl⟩ : ∃ k : Nat, e = k := ⟨e.toNat, by omega⟩
      have hk : k < Sp.length := by omega
      have hx := List.getElem?_eq_getElem (l := edges n) (show k < (edges n).length by omega)
      generalize (edges n)[k] = y at hx
      obtain ⟨c1, _, c12, c2, _⟩ := edge_of hn hx
      have hsp1 := fun z => Speed_ok (N := hN.more z) (S := S1.app z) sky step hf side p lim riv ra rl rc hn hx
      have hopen := fun z => Open_ok (N := hN.more z) (S := S1.app z) sky step hf hn hx
      have hsf := S1.s3.wf k hk
      by_cases har : areaC n y.1 = areaC n y.2.2.1
      · have uE : Up M1 (M1 ++ ([⟨true, .cells [I y.1, I y.2.1, I y.2.2.1, I y.2.2.2]⟩] : List Blk)) := Up.of u1.sc rfl
        have hcop : COk Tryz.prog 3 22 [seaV j0 j1 j2 j3 Be.length Wt.length Tr.length Sp.length sky step] (M1 ++ ([⟨true, .cells [I y.1, I y.2.1, I y.2.2.1, I y.2.2.2]⟩] : List Blk)) (.agg [.sk (M1.length + 4) 0 Be.length (Be.length + 9), .sk (M1.length + 8) 0 Wt.length (Wt.length + 9), .sk (M1.length + 10) 0 Tr.length (Tr.length + 9), .sk (M1.length + 6) 0 Sp.length (Sp.length + 9), .int .i64 sky, I step])
            (M1 ++ (⟨true, .cells [I y.1, I y.2.1, I y.2.2.1, I y.2.2.2]⟩ :: cpL (M1.length + 1) j0 j1 j2 j3 Be.length Wt.length Tr.length Sp.length sky step Be Wt Tr Sp)) := by
          have := copied16_ok uE.sc (S0.up uE) (by omega) (by omega) (by omega) (by omega) sky step
          rw [List.append_assoc] at this
          rw [show ∀ l : List Blk, (M1 ++ l).length = M1.length + l.length from fun l => List.length_append] at this
          exact this
        have hS2 : SeaR (M1 ++ (⟨true, .cells [I y.1, I y.2.1, I y.2.2.1, I y.2.2.2]⟩ :: (cpL (M1.length + 1) j0 j1 j2 j3 Be.length Wt.length Tr.length Sp.length sky step ((Be.set y.1 (Be.getD y.2.2.1 0)).set y.2.2.1 (Be.getD y.1 0)) ((Wt.set y.1 (Wt.getD y.2.2.1 0)).set y.2.2.1 (Wt.getD y.1 0)) Tr (Sp.set k (Op.negFloat .f64 (Sp.getD k 0))) ++ [⟨true, .cells [.sk (M1.length + 4) 0 Be.length (Be.length + 9), .sk (M1.length + 8) 0 Wt.length (Wt.length + 9), .sk (M1.length + 10) 0 Tr.length (Tr.length + 9), .sk (M1.length + 6) 0 Sp.length (Sp.length + 9), .int .i64 sky, I step]⟩])))
            (M1.length + 4) (M1.length + 8) (M1.length + 10) (M1.length + 6) ((Be.set y.1 (Be.getD y.2.2.1 0)).set y.2.2.1 (Be.getD y.1 0)) ((Wt.set y.1 (Wt.getD y.2.2.1 0)).set y.2.2.1 (Wt.getD y.1 0)) Tr (Sp.set k (Op.negFloat .f64 (Sp.getD k 0))) :=
          ⟨cop_F (getB_app 4) (set_wf (set_wf S1.s0.wf (S1.s0.wf _ (by omega))) (S1.s0.wf _ (by omega))) (by simp only [List.length_set]; omega),
            cop_I (getB_app 8) (set_wf (set_wf S1.s1.wf (S1.s1.wf _ (by omega))) (S1.s1.wf _ (by omega))) (by simp only [List.length_set]; omega),
            cop_I (getB_app 10) S1.s2.wf (by omega),
            cop_F (getB_app 6) (set_wf S1.s3.wf (neg_in hsf)) (by simp only [List.length_set]; omega)⟩
        have hf2 : Fit n ((Be.set y.1 (Be.getD y.2.2.1 0)).set y.2.2.1 (Be.getD y.1 0)).length ((Wt.set y.1 (Wt.getD y.2.2.1 0)).set y.2.2.1 (Wt.getD y.1 0)).length Tr.length (Sp.set k (Op.negFloat .f64 (Sp.getD k 0))).length := by
          simp only [List.length_set]; exact hf
        have hspT := sk_4 (k0 := Be.length + 9) (k1 := Wt.length + 9) (k2 := Tr.length + 9) (k3 := Sp.length + 9) (Speed_ok (N := hN.more _) (S := hS2) sky step hf2 side p lim riv ra rl rc hn hx)
        have hopenT := sk_3 (k0 := Be.length + 9) (k1 := Wt.length + 9) (k2 := Tr.length + 9) (k3 := Sp.length + 9) (Open_ok (N := hN.more _) (S := hS2) sky step hf2 hn hx)
        have hl1 : lk n ((Be.set y.1 (Be.getD y.2.2.1 0)).set y.2.2.1 (Be.getD y.1 0)) ((Wt.set y.1 (Wt.getD y.2.2.1 0)).set y.2.2.1 (Wt.getD y.1 0)) y.1 = lk n Be Wt y.2.2.1 := by
          unfold lk
          rw [set_off (by omega), set_at (by omega), set_off (by omega), set_at (by omega), har]
        have hl2 : lk n ((Be.set y.1 (Be.getD y.2.2.1 0)).set y.2.2.1 (Be.getD y.1 0)) ((Wt.set y.1 (Wt.getD y.2.2.1 0)).set y.2.2.1 (Wt.getD y.1 0)) y.2.2.1 = lk n Be Wt y.1 := by
          unfold lk
          rw [set_at (by simp only [List.length_set]; omega), set_at (by simp only [List.length_set]; omega), har]
        have hv : speedE n p ((Be.set y.1 (Be.getD y.2.2.1 0)).set y.2.2.1 (Be.getD y.1 0)) ((Wt.set y.1 (Wt.getD y.2.2.1 0)).set y.2.2.1 (Wt.getD y.1 0)) (Sp.set k (Op.negFloat .f64 (Sp.getD k 0))) k y = negF (speedE n p Be Wt Sp k y) := by
          unfold speedE
          rw [hl1, hl2, set_at hk]
          exact mirror_plain p _ _ _ hsf
        rw [hv] at hspT
        rw [hl1, hl2, open_comm] at hopenT
        simp only [List.length_set] at hspT hopenT
        have hsame : ∀ m, COk Tryz.prog 3 19 [F (negF (speedE n p Be Wt Sp k y)), F (canonF (fneg (some (speedE n p Be Wt Sp k y))))] m (Bo true) m := fun m => by
          have := same_ok (negF (speedE n p Be Wt Sp k y)) (negF (speedE n p Be Wt Sp k y)) m
          rwa [decide_eq_true rfl] at this
        refine COk_quiet Tryz.f4 Tryz.func4 (by kernel_rfl) rfl ?_
        (conv => whnf); repeat (first | (refine ⟨_, _, hlv, ?_⟩; conv => whnf) | (refine ⟨_, hlv, ?_⟩; conv => whnf) | (refine ⟨_, _, hnet, ?_⟩; conv => whnf) | (refine ⟨_, hnet, ?_⟩; conv => whnf) | (refine br_d (by omega) ?_; conv => whnf) | (refine br_nd (by omega) ?_; conv => whnf) | (refine br_eq (by omega) ?_; conv => whnf) | (refine br_neq (by omega) ?_; conv => whnf) | (refine br_ne (by omega) ?_; conv => whnf) | (refine br_no (bo_eqn (by omega)) ?_; conv => whnf) | (refine Or.inl ?_; conv => whnf) | (refine okS_no (by kernel_rfl) ?_; conv => whnf) | (refine okS_yes (by kernel_rfl) ?_; conv => whnf) | (refine And_of (by (conv => whnf); (rw [getB_app0]); (conv => whnf)) ?_; conv => whnf) | (refine setB_app ?_; conv => whnf) | (refine setB_app0 ?_; conv => whnf) | (rw [getB_app]; conv => whnf) | (rw [getB_app0]; conv => whnf) | (refine addB_f13 ?_; conv => whnf) | (refine addB_f12 ?_; conv => whnf) | (refine addB_f11 ?_; conv => whnf) | (refine addB_f10 ?_; conv => whnf) | (refine addB_f9 ?_; conv => whnf) | (refine addB_f8 ?_; conv => whnf) | (refine addB_f7 ?_; conv => whnf) | (refine addB_f6 ?_; conv => whnf) | (refine addB_f5 ?_; conv => whnf) | (refine addB_f4 ?_; conv => whnf) | (refine addB_f3 ?_; conv => whnf) | (refine addB_f2 ?_; conv => whnf) | (refine addB_f1 ?_; conv => whnf) | (refine addB_f0 ?_; conv => whnf))
        (conv => whnf); repeat (first | (rw [hS0]; conv => whnf) | (rw [hS]; conv => whnf) | (rw [hP]; conv => whnf) | (refine ⟨_, _, edge_ok hN k y hx, ?_⟩; conv => whnf) | (refine ⟨_, edge_ok hN k y hx, ?_⟩; conv => whnf) | (refine ⟨_, _, area_ok (hN.more _) y.1 c1, ?_⟩; conv => whnf) | (refine ⟨_, area_ok (hN.more _) y.1 c1, ?_⟩; conv => whnf) | (refine ⟨_, _, area_ok (hN.more _) y.2.2.1 c2, ?_⟩; conv => whnf) | (refine ⟨_, area_ok (hN.more _) y.2.2.1 c2, ?_⟩; conv => whnf) | (refine ⟨_, _, hcop, ?_⟩; conv => whnf) | (refine ⟨_, hcop, ?_⟩; conv => whnf) | (refine ⟨_, _, hsp1 _, ?_⟩; conv => whnf) | (refine ⟨_, hsp1 _, ?_⟩; conv => whnf) | (refine ⟨_, _, hspT, ?_⟩; conv => whnf) | (refine ⟨_, hspT, ?_⟩; conv => whnf) | (refine ⟨_, _, hopen _, ?_⟩; conv => whnf) | (refine ⟨_, hopen _, ?_⟩; conv => whnf) | (refine ⟨_, _, hopenT, ?_⟩; conv => whnf) | (refine ⟨_, hopenT, ?_⟩; conv => whnf) | (refine ⟨_, _, canon_ok _ _, ?_⟩; conv => whnf) | (refine ⟨_, canon_ok _ _, ?_⟩; conv => whnf) | (refine ⟨_, _, hsame _, ?_⟩; conv => whnf) | (refine ⟨_, hsame _, ?_⟩; conv => whnf) | (refine SlF.at (S1.s0.app _) (i := y.1) (by omega) rfl ?_; conv => whnf) | (refine SlF.at (S1.s0.app _) (i := y.2.2.1) (by omega) rfl ?_; conv => whnf) | (refine SlI.at (S1.s1.app _) (i := y.1) (by omega) rfl ?_; conv => whnf) | (refine SlI.at (S1.s1.app _) (i := y.2.2.1) (by omega) rfl ?_; conv => whnf) | (refine SlF.at (S1.s3.app _) (i := k) hk rfl ?_; conv => whnf) | (refine br_yes (cpF_blt (by (try simp only [List.length_set]); omega)) ?_; conv => whnf) | (refine br_yes (cpI_blt (by (try simp only [List.length_set]); omega)) ?_; conv => whnf) | (refine put_at (blkF (cpF_set (by (try simp only [List.length_set]); omega))) ?_; conv => whnf) | (refine put_at (blkI (cpI_set (by (try simp only [List.length_set]); omega))) ?_; conv => whnf) | (refine br_d (by omega) ?_; conv => whnf) | (refine br_nd (by omega) ?_; conv => whnf) | (refine br_eq (by omega) ?_; conv => whnf) | (refine br_neq (by omega) ?_; conv => whnf) | (refine br_ne (by omega) ?_; conv => whnf) | (refine br_no (bo_eqn (by omega)) ?_; conv => whnf) | (refine Or.inl ?_; conv => whnf) | (refine okS_no (by kernel_rfl) ?_; conv => whnf) | (refine okS_yes (by kernel_rfl) ?_; conv => whnf) | (refine And_of (by (conv => whnf); (rw [getB_app0]); (conv => whnf)) ?_; conv => whnf) | (refine setB_app ?_; conv => whnf) | (refine setB_app0 ?_; conv => whnf) | (rw [getB_app]; conv => whnf) | (rw [getB_app0]; conv => whnf) | (refine addB_f13 ?_; conv => whnf) | (refine addB_f12 ?_; conv => whnf) | (refine addB_f11 ?_; conv => whnf) | (refine addB_f10 ?_; conv => whnf) | (refine addB_f9 ?_; conv => whnf) | (refine addB_f8 ?_; conv => whnf) | (refine addB_f7 ?_; conv => whnf) | (refine addB_f6 ?_; conv => whnf) | (refine addB_f5 ?_; conv => whnf) | (refine addB_f4 ?_; conv => whnf) | (refine addB_f3 ?_; conv => whnf) | (refine addB_f2 ?_; conv => whnf) | (refine addB_f1 ?_; conv => whnf) | (refine addB_f0 ?_; conv => whnf))
        exact ⟨congrArg V.bool (by simp), ((u0.trans u1).app _)⟩
      · refine COk_quiet Tryz.f4 Tryz.func4 (by kernel_rfl) rfl ?_
        (conv => whnf); repeat (first | (refine ⟨_, _, hlv, ?_⟩; conv => whnf) | (refine ⟨_, hlv, ?_⟩; conv => whnf) | (refine ⟨_, _, hnet, ?_⟩; conv => whnf) | (refine ⟨_, hnet, ?_⟩; conv => whnf) | (rw [hS0]; conv => whnf) | (rw [hS]; conv => whnf) | (refine ⟨_, _, edge_ok hN k y hx, ?_⟩; conv => whnf) | (refine ⟨_, edge_ok hN k y hx, ?_⟩; conv => whnf) | (refine ⟨_, _, area_ok (hN.more _) y.1 c1, ?_⟩; conv => whnf) | (refine ⟨_, area_ok (hN.more _) y.1 c1, ?_⟩; conv => whnf) | (refine ⟨_, _, area_ok (hN.more _) y.2.2.1 c2, ?_⟩; conv => whnf) | (refine ⟨_, area_ok (hN.more _) y.2.2.1 c2, ?_⟩; conv => whnf) | (refine br_ne har ?_; conv => whnf) | (refine ⟨_, _, hopen _, ?_⟩; conv => whnf) | (refine ⟨_, hopen _, ?_⟩; conv => whnf) | (refine br_d (by omega) ?_; conv => whnf) | (refine br_nd (by omega) ?_; conv => whnf) | (refine br_eq (by omega) ?_; conv => whnf) | (refine br_neq (by omega) ?_; conv => whnf) | (refine br_ne (by omega) ?_; conv => whnf) | (refine br_no (bo_eqn (by omega)) ?_; conv => whnf) | (refine Or.inl ?_; conv => whnf) | (refine okS_no (by kernel_rfl) ?_; conv => whnf) | (refine okS_yes (by kernel_rfl) ?_; conv => whnf) | (refine And_of (by (conv => whnf); (rw [getB_app0]); (conv => whnf)) ?_; conv => whnf) | (refine setB_app ?_; conv => whnf) | (refine setB_app0 ?_; conv => whnf) | (rw [getB_app]; conv => whnf) | (rw [getB_app0]; conv => whnf) | (refine addB_f13 ?_; conv => whnf) | (refine addB_f12 ?_; conv => whnf) | (refine addB_f11 ?_; conv => whnf) | (refine addB_f10 ?_; conv => whnf) | (refine addB_f9 ?_; conv => whnf) | (refine addB_f8 ?_; conv => whnf) | (refine addB_f7 ?_; conv => whnf) | (refine addB_f6 ?_; conv => whnf) | (refine addB_f5 ?_; conv => whnf) | (refine addB_f4 ?_; conv => whnf) | (refine addB_f3 ?_; conv => whnf) | (refine addB_f2 ?_; conv => whnf) | (refine addB_f1 ?_; conv => whnf) | (refine addB_f0 ?_; conv => whnf))
        exact ⟨rfl, ((u0.trans u1).app _)⟩
    · have hno := fun z => Open_no (hN.more z) (j0 := j0) (j1 := j1) (j2 := j2) (j3 := j3) sky step (n0 := Be.length) (n1 := Wt.length) (n2 := Tr.length) (n3 := Sp.length) e he
      refine COk_quiet Tryz.f4 Tryz.func4 (by kernel_rfl) rfl ?_
      (conv => whnf); repeat (first | (refine ⟨_, _, hlv, ?_⟩; conv => whnf) | (refine ⟨_, hlv, ?_⟩; conv => whnf) | (refine ⟨_, _, hnet, ?_⟩; conv => whnf) | (refine ⟨_, hnet, ?_⟩; conv => whnf) | (rw [hS0]; conv => whnf) | (rw [hS]; conv => whnf) | (refine ⟨_, _, edge_no hN e he, ?_⟩; conv => whnf) | (refine ⟨_, edge_no hN e he, ?_⟩; conv => whnf) | (refine ⟨_, _, hno _, ?_⟩; conv => whnf) | (refine ⟨_, hno _, ?_⟩; conv => whnf) | (refine br_d (by omega) ?_; conv => whnf) | (refine br_nd (by omega) ?_; conv => whnf) | (refine br_eq (by omega) ?_; conv => whnf) | (refine br_neq (by omega) ?_; conv => whnf) | (refine br_ne (by omega) ?_; conv => whnf) | (refine br_no (bo_eqn (by omega)) ?_; conv => whnf) | (refine Or.inl ?_; conv => whnf) | (refine okS_no (by kernel_rfl) ?_; conv => whnf) | (refine okS_yes (by kernel_rfl) ?_; conv => whnf) | (refine And_of (by (conv => whnf); (rw [getB_app0]); (conv => whnf)) ?_; conv => whnf) | (refine setB_app ?_; conv => whnf) | (refine setB_app0 ?_; conv => whnf) | (rw [getB_app]; conv => whnf) | (rw [getB_app0]; conv => whnf) | (refine addB_f13 ?_; conv => whnf) | (refine addB_f12 ?_; conv => whnf) | (refine addB_f11 ?_; conv => whnf) | (refine addB_f10 ?_; conv => whnf) | (refine addB_f9 ?_; conv => whnf) | (refine addB_f8 ?_; conv => whnf) | (refine addB_f7 ?_; conv => whnf) | (refine addB_f6 ?_; conv => whnf) | (refine addB_f5 ?_; conv => whnf) | (refine addB_f4 ?_; conv => whnf) | (refine addB_f3 ?_; conv => whnf) | (refine addB_f2 ?_; conv => whnf) | (refine addB_f1 ?_; conv => whnf) | (refine addB_f0 ?_; conv => whnf))
      exact ⟨rfl, ((u0.trans u1).app _)⟩
  · have hno := net16_no (hm.up u0) u0.sc x (j0 := j0) (j1 := j1) (j2 := j2) (j3 := j3) (by omega) (by omega) (by omega) (by omega) sky step (fun n h1 h2 h3 h4 => h ⟨n, h1, h2, h3, h4⟩)
    refine COk_quiet Tryz.f4 Tryz.func4 (by kernel_rfl) rfl ?_
    (conv => whnf); repeat (first | (refine ⟨_, _, hlv, ?_⟩; conv => whnf) | (refine ⟨_, hlv, ?_⟩; conv => whnf) | (refine ⟨_, _, hno, ?_⟩; conv => whnf) | (refine ⟨_, hno, ?_⟩; conv => whnf) | (refine br_d (by omega) ?_; conv => whnf) | (refine br_nd (by omega) ?_; conv => whnf) | (refine br_eq (by omega) ?_; conv => whnf) | (refine br_neq (by omega) ?_; conv => whnf) | (refine br_ne (by omega) ?_; conv => whnf) | (refine br_no (bo_eqn (by omega)) ?_; conv => whnf) | (refine Or.inl ?_; conv => whnf) | (refine okS_no (by kernel_rfl) ?_; conv => whnf) | (refine okS_yes (by kernel_rfl) ?_; conv => whnf) | (refine And_of (by (conv => whnf); (rw [getB_app0]); (conv => whnf)) ?_; conv => whnf) | (refine setB_app ?_; conv => whnf) | (refine setB_app0 ?_; conv => whnf) | (rw [getB_app]; conv => whnf) | (rw [getB_app0]; conv => whnf) | (refine addB_f13 ?_; conv => whnf) | (refine addB_f12 ?_; conv => whnf) | (refine addB_f11 ?_; conv => whnf) | (refine addB_f10 ?_; conv => whnf) | (refine addB_f9 ?_; conv => whnf) | (refine addB_f8 ?_; conv => whnf) | (refine addB_f7 ?_; conv => whnf) | (refine addB_f6 ?_; conv => whnf) | (refine addB_f5 ?_; conv => whnf) | (refine addB_f4 ?_; conv => whnf) | (refine addB_f3 ?_; conv => whnf) | (refine addB_f2 ?_; conv => whnf) | (refine addB_f1 ?_; conv => whnf) | (refine addB_f0 ?_; conv => whnf))
    exact ⟨rfl, _, rfl⟩
end Go.Proofs.YtajnkcoanapboaaGreatDoor
