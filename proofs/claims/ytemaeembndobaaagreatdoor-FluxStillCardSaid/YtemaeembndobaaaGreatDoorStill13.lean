/- The statement FluxStill: its contract. No condition. -/
import Derived.Test.YtemaeembndobaaaGreatDoorEdges13
import Derived.Test.YtemaeembndobaaaGreatDoorFm
namespace Go.Proofs.YtemaeembndobaaaGreatDoor
open Go Go.Eng
set_option maxRecDepth 100000
set_option linter.unusedSimpArgs false
set_option linter.unusedVariables false

theorem cpF_blt' {l : List Nat} {i v w : Nat} (h : i < l.length) : Nat.blt (0 + i * 1) (cpF (l.set w v)).length = true := by
  simp [cpF]; omega
theorem fgt_fltS {x y : Option Nat} (h1 : fgt x y = true) : flt x y = false := by
  unfold fgt at h1; unfold flt
  cases h : fcmp x y with
  | none => rfl
  | some o => rw [h] at h1; cases o <;> first | rfl | (exact absurd h1 (by decide))
theorem notS_t {b : Bool} (h : b = true) : (!b) = false := by rw [h]; rfl
theorem notS_f {b : Bool} (h : b = false) : (!b) = true := by rw [h]; rfl
theorem from13_ok (m : List Blk) : COk Tryz.prog 3 22 [U 9223372036854775808] m (F 9223372036854775808) m := by
  have h := frombitsZ_ok 9223372036854775808 m
  have h : COk Tryz.prog 3 62 [U 9223372036854775808] m (F 9223372036854775808) m := h
  refine COk_quiet Tryz.f22 Tryz.func22 (by kernel_rfl) rfl ?_
  (conv => whnf); repeat (first | (refine ⟨_, _, h, ?_⟩; conv => whnf) | (refine ⟨_, h, ?_⟩; conv => whnf) | (refine br_d (by omega) ?_; conv => whnf) | (refine br_nd (by omega) ?_; conv => whnf) | (refine br_eq (by omega) ?_; conv => whnf) | (refine br_neq (by omega) ?_; conv => whnf) | (refine br_ne (by omega) ?_; conv => whnf) | (refine br_no (bo_eqn (by omega)) ?_; conv => whnf) | (refine Or.inl ?_; conv => whnf) | (refine okS_no (by kernel_rfl) ?_; conv => whnf) | (refine okS_yes (by kernel_rfl) ?_; conv => whnf) | (refine And_of (by (conv => whnf); (rw [getB_app0]); (conv => whnf)) ?_; conv => whnf) | (refine setB_app ?_; conv => whnf) | (refine setB_app0 ?_; conv => whnf) | (rw [getB_app]; conv => whnf) | (rw [getB_app0]; conv => whnf) | (refine addB_f13 ?_; conv => whnf) | (refine addB_f12 ?_; conv => whnf) | (refine addB_f11 ?_; conv => whnf) | (refine addB_f10 ?_; conv => whnf) | (refine addB_f9 ?_; conv => whnf) | (refine addB_f8 ?_; conv => whnf) | (refine addB_f7 ?_; conv => whnf) | (refine addB_f6 ?_; conv => whnf) | (refine addB_f5 ?_; conv => whnf) | (refine addB_f4 ?_; conv => whnf) | (refine addB_f3 ?_; conv => whnf) | (refine addB_f2 ?_; conv => whnf) | (refine addB_f1 ?_; conv => whnf) | (refine addB_f0 ?_; conv => whnf))
  exact ⟨rfl, [], by simp⟩
theorem posF_word {a g : Option Nat} (ha : a = none ∨ Num a) (hg : g = none ∨ Num g) : posF (minO a g) = 0 ∨ (posF (minO a g) < 18446744073709551616 ∧ fgt (some (posF (minO a g))) (some 0) = true) := by
  have hq : posF qn = 0 := by unfold posF; rw [qn_0, if_neg (by decide)]
  rcases ha with rfl | ⟨s, R, hR, rfl⟩
  · rw [show minO none g = qn by cases g <;> rfl, hq]; exact .inl rfl
  rcases hg with rfl | ⟨t, Q, hQ, rfl⟩
  · rw [show minO (some (wd s R)) none = qn from rfl, hq]; exact .inl rfl
  obtain ⟨u, T, hT, e, _⟩ := minO_num (s := s) (t := t) hR hQ
  rw [e]
  unfold posF
  by_cases h : fgt (some (wd u T)) (some 0) = true
  · rw [if_pos h]
    exact .inr ⟨wd_in u hT, h⟩
  · rw [if_neg h]; exact .inl rfl
theorem recon_word (n : Nat) (lim : Int) (Be : List Nat) (Wt : List Int) (y : Ed) (u : Nat) : reconF n lim Be Wt y u = 0 ∨ (reconF n lim Be Wt y u < 18446744073709551616 ∧ fgt (some (reconF n lim Be Wt y u)) (some 0) = true) := by
  have hw : ∀ a b c, posF (minO (slantF n lim Wt a b c) (gateF n Be Wt a b)) = 0 ∨ (posF (minO (slantF n lim Wt a b c) (gateF n Be Wt a b)) < 18446744073709551616 ∧ fgt (some (posF (minO (slantF n lim Wt a b c) (gateF n Be Wt a b)))) (some 0) = true) := fun a b c => posF_word (num_add _ _) (num_sub _ _)
  unfold reconF
  split
  · exact hw _ _ _
  · split
    · exact hw _ _ _
    · exact .inl rfl
theorem flux_sg {u d l t : Nat} (hu : u < 18446744073709551616) (hd : d = 0 ∨ (d < 18446744073709551616 ∧ fgt (some d) (some 0) = true)) (hl : l < 18446744073709551616) (ht : t < 18446744073709551616) (gl : fgt (some l) (some 0) = true) (gt : fgt (some t) (some 0) = true) :
    (fgt (some u) (some 0) = true → ¬ quantF u d l t < 0) ∧ (flt (some u) (some 0) = true → ¬ 0 < quantF u d l t) ∧ (feq (some u) (some 0) = true → quantF u d l t = 0) := by
  rcases hd with rfl | ⟨hd, gd⟩
  · rw [quant_z2]; exact ⟨fun _ => by decide, fun _ => by decide, fun _ => rfl⟩
  · exact ⟨quant_pos hu hd hl ht gd gl gt, quant_below hu hd hl ht gd gl gt, fun h => quant_zu hu h d l t⟩
theorem fgt_feq {x y : Option Nat} (h1 : fgt x y = true) : feq x y = false := by
  unfold fgt at h1; unfold feq
  cases h : fcmp x y with
  | none => rfl
  | some o => rw [h] at h1; cases o <;> first | rfl | (exact absurd h1 (by decide))
theorem flt_feq {x y : Option Nat} (h1 : flt x y = true) : feq x y = false := by
  unfold flt at h1; unfold feq
  cases h : fcmp x y with
  | none => rfl
  | some o => rw [h] at h1; cases o <;> first | rfl | (exact absurd h1 (by decide))
theorem lnE_ne {n : Nat} (hn : 1 ≤ n) (hn' : n ≤ 32) {e : Nat} {y : Ed} (hx : (edges n)[e]? = some y) : lnE n y < infR ∧ lnE n y ≠ 0 := by
  obtain ⟨c1, c1s, _⟩ := edge_of hn hx
  obtain ⟨_, a1, a2, a3⟩ := cell_parts hn c1
  exact lenS_ne hn hn' a2 a3
/-- Noughts, of both signs by turns. -/
def zig (i : Nat) : Nat := if i % 2 = 0 then 9223372036854775808 else 0
theorem zig_in (i : Nat) : zig i < 18446744073709551616 := by unfold zig; split <;> decide
theorem zig_0 (i : Nat) : feq (some (zig i)) (some 0) = true := by
  unfold zig
  split <;> decide +kernel
set_option maxHeartbeats 0 in
theorem still13_ok {M : List Blk} (hm : Top M) (hsc : scM M.length M = true) (x : Int) (side : Int) (p : PlF) (lim : Int) (riv : Bool) (ra : Option Addr) (rl rc : Nat) (hdt : p.dt < 18446744073709551616) {w : Bool} {j0 j1 j2 j3 : Nat} {Be : List Nat} {Wt Tr : List Int} {Sp : List Nat} (S : SeaB M w j0 j1 j2 j3 Be Wt Tr Sp) (sky step : Int) :
    COk Tryz.prog 3 5 [I x, planV side p lim riv ra rl rc, seaV j0 j1 j2 j3 Be.length Wt.length Tr.length Sp.length sky step] M (Bo true) M := by
  have l0 := S.read.s0.lt
  have l1 := S.read.s1.lt
  have l2 := S.read.s2.lt
  have l3 := S.read.s3.lt
  have u0 : Up M (M ++ ([plC side p lim riv ra rl rc, seC j0 j1 j2 j3 Be.length Wt.length Tr.length Sp.length sky step] : List Blk)) := Up.of hsc (by simp [scM, B.sc, scL, V.sc]; omega)
  have hlv := lives13_ok (hm.up u0) u0.sc
  have hlen0 := u0.len
  have hl2 : (M ++ ([plC side p lim riv ra rl rc, seC j0 j1 j2 j3 Be.length Wt.length Tr.length Sp.length sky step] : List Blk)).length = M.length + 2 := by simp
  by_cases h : 1 ≤ x ∧ x ≤ 32
  case neg =>
    have hno := fun m => new_no x h m
    refine COk_quiet Tryz.f5 Tryz.func5 (by kernel_rfl) rfl ?_
    (conv => whnf); repeat (first | (refine ⟨_, _, hlv, ?_⟩; conv => whnf) | (refine ⟨_, hlv, ?_⟩; conv => whnf) | (refine ⟨_, _, hno _, ?_⟩; conv => whnf) | (refine ⟨_, hno _, ?_⟩; conv => whnf) | (refine br_d (by omega) ?_; conv => whnf) | (refine br_nd (by omega) ?_; conv => whnf) | (refine br_eq (by omega) ?_; conv => whnf) | (refine br_neq (by omega) ?_; conv => whnf) | (refine br_ne (by omega) ?_; conv => whnf) | (refine br_no (bo_eqn (by omega)) ?_; conv => whnf) | (refine Or.inl ?_; conv => whnf) | (refine okS_no (by kernel_rfl) ?_; conv => whnf) | (refine okS_yes (by kernel_rfl) ?_; conv => whnf) | (refine And_of (by (conv => whnf); (rw [getB_app0]); (conv => whnf)) ?_; conv => whnf) | (refine setB_app ?_; conv => whnf) | (refine setB_app0 ?_; conv => whnf) | (rw [getB_app]; conv => whnf) | (rw [getB_app0]; conv => whnf) | (refine addB_f13 ?_; conv => whnf) | (refine addB_f12 ?_; conv => whnf) | (refine addB_f11 ?_; conv => whnf) | (refine addB_f10 ?_; conv => whnf) | (refine addB_f9 ?_; conv => whnf) | (refine addB_f8 ?_; conv => whnf) | (refine addB_f7 ?_; conv => whnf) | (refine addB_f6 ?_; conv => whnf) | (refine addB_f5 ?_; conv => whnf) | (refine addB_f4 ?_; conv => whnf) | (refine addB_f3 ?_; conv => whnf) | (refine addB_f2 ?_; conv => whnf) | (refine addB_f1 ?_; conv => whnf) | (refine addB_f0 ?_; conv => whnf))
    exact ⟨rfl, u0.ex⟩
  obtain ⟨n, rfl⟩ : ∃ n : Nat, x = n := ⟨x.toNat, by omega⟩
  obtain ⟨hn, hn'⟩ : 1 ≤ n ∧ n ≤ 32 := by omega
  obtain ⟨b, M1, hnew, hN, u1⟩ := new_up (hm.up u0) u0.sc n hn hn'
  have hP : ∀ y, getB (M1 ++ y) M.length = plC side p lim riv ra rl rc := fun y => by
    obtain ⟨z, rfl⟩ := u1.ex
    exact getB_in (getB_in getB_app0 rfl) rfl
  have hS : ∀ y, getB (M1 ++ y) (M.length + 1) = seC j0 j1 j2 j3 Be.length Wt.length Tr.length Sp.length sky step := fun y => by
    obtain ⟨z, rfl⟩ := u1.ex
    exact getB_in (getB_in (getB_app 1) rfl) rfl
  have hP0 := hP []
  have hS0 := hS []
  rw [List.append_nil] at hP0 hS0
  have hlongS := fun m => long13_ok (M := m) (j0 := j0) (j1 := j1) (j2 := j2) (j3 := j3) sky step Be.length Wt.length Tr.length Sp.length
  by_cases hls : longS Be.length Wt.length Tr.length Sp.length = true
  · rw [hls] at hlongS
    refine COk_quiet Tryz.f5 Tryz.func5 (by kernel_rfl) rfl ?_
    (conv => whnf); repeat (first | (refine ⟨_, _, hlv, ?_⟩; conv => whnf) | (refine ⟨_, hlv, ?_⟩; conv => whnf) | (refine ⟨_, _, hnew, ?_⟩; conv => whnf) | (refine ⟨_, hnew, ?_⟩; conv => whnf) | (rw [hS0]; conv => whnf) | (refine ⟨_, _, hlongS _, ?_⟩; conv => whnf) | (refine ⟨_, hlongS _, ?_⟩; conv => whnf) | (refine br_d (by omega) ?_; conv => whnf) | (refine br_nd (by omega) ?_; conv => whnf) | (refine br_eq (by omega) ?_; conv => whnf) | (refine br_neq (by omega) ?_; conv => whnf) | (refine br_ne (by omega) ?_; conv => whnf) | (refine br_no (bo_eqn (by omega)) ?_; conv => whnf) | (refine Or.inl ?_; conv => whnf) | (refine okS_no (by kernel_rfl) ?_; conv => whnf) | (refine okS_yes (by kernel_rfl) ?_; conv => whnf) | (refine And_of (by (conv => whnf); (rw [getB_app0]); (conv => whnf)) ?_; conv => whnf) | (refine setB_app ?_; conv => whnf) | (refine setB_app0 ?_; conv => whnf) | (rw [getB_app]; conv => whnf) | (rw [getB_app0]; conv => whnf) | (refine addB_f13 ?_; conv => whnf) | (refine addB_f12 ?_; conv => whnf) | (refine addB_f11 ?_; conv => whnf) | (refine addB_f10 ?_; conv => whnf) | (refine addB_f9 ?_; conv => whnf) | (refine addB_f8 ?_; conv => whnf) | (refine addB_f7 ?_; conv => whnf) | (refine addB_f6 ?_; conv => whnf) | (refine addB_f5 ?_; conv => whnf) | (refine addB_f4 ?_; conv => whnf) | (refine addB_f3 ?_; conv => whnf) | (refine addB_f2 ?_; conv => whnf) | (refine addB_f1 ?_; conv => whnf) | (refine addB_f0 ?_; conv => whnf))
    exact ⟨rfl, (u0.trans u1).ex⟩
  rw [show longS Be.length Wt.length Tr.length Sp.length = false by simpa using hls] at hlongS
  have S0 := S.up (u0.trans u1)
  have S1 := S0.read
  have hlen := u1.len
  have hb := hN.lt
  have hel := edges_len hn
  have hsq : n * n ≤ 1024 := Nat.mul_le_mul hn' hn'
  by_cases hf : Fit n Be.length Wt.length Tr.length Sp.length
  case neg =>
    have hall := All_no (j0 := j0) (j1 := j1) (j2 := j2) (j3 := j3) hN sky step u1.sc (by omega) (by omega) (by omega) (by omega) hf side p lim riv ra rl rc
    refine COk_quiet Tryz.f5 Tryz.func5 (by kernel_rfl) rfl ?_
    (conv => whnf); repeat (first | (refine ⟨_, _, hlv, ?_⟩; conv => whnf) | (refine ⟨_, hlv, ?_⟩; conv => whnf) | (refine ⟨_, _, hnew, ?_⟩; conv => whnf) | (refine ⟨_, hnew, ?_⟩; conv => whnf) | (rw [hS0]; conv => whnf) | (rw [hP0]; conv => whnf) | (refine ⟨_, _, hlongS _, ?_⟩; conv => whnf) | (refine ⟨_, hlongS _, ?_⟩; conv => whnf) | (refine ⟨_, _, hall, ?_⟩; conv => whnf) | (refine ⟨_, hall, ?_⟩; conv => whnf) | (refine br_d (by omega) ?_; conv => whnf) | (refine br_nd (by omega) ?_; conv => whnf) | (refine br_eq (by omega) ?_; conv => whnf) | (refine br_neq (by omega) ?_; conv => whnf) | (refine br_ne (by omega) ?_; conv => whnf) | (refine br_no (bo_eqn (by omega)) ?_; conv => whnf) | (refine Or.inl ?_; conv => whnf) | (refine okS_no (by kernel_rfl) ?_; conv => whnf) | (refine okS_yes (by kernel_rfl) ?_; conv => whnf) | (refine And_of (by (conv => whnf); (rw [getB_app0]); (conv => whnf)) ?_; conv => whnf) | (refine setB_app ?_; conv => whnf) | (refine setB_app0 ?_; conv => whnf) | (rw [getB_app]; conv => whnf) | (rw [getB_app0]; conv => whnf) | (refine addB_f13 ?_; conv => whnf) | (refine addB_f12 ?_; conv => whnf) | (refine addB_f11 ?_; conv => whnf) | (refine addB_f10 ?_; conv => whnf) | (refine addB_f9 ?_; conv => whnf) | (refine addB_f8 ?_; conv => whnf) | (refine addB_f7 ?_; conv => whnf) | (refine addB_f6 ?_; conv => whnf) | (refine addB_f5 ?_; conv => whnf) | (refine addB_f4 ?_; conv => whnf) | (refine addB_f3 ?_; conv => whnf) | (refine addB_f2 ?_; conv => whnf) | (refine addB_f1 ?_; conv => whnf) | (refine addB_f0 ?_; conv => whnf))
    exact ⟨rfl, (u0.trans u1).app _⟩
  obtain ⟨M2, hall, u2, e2, T2, hout⟩ := All_up u1.sc hN S1 sky step hf hn hn' side p lim riv ra rl rc
  have q0 := hf.a
  have q1 := hf.b
  have q2 := hf.c
  have hsp := hf.d
  have hN2 := hN.up u2
  have T0 := S0.up u2
  have S2 := T0.read
  have gP : ∀ z, getB (M2 ++ z) M.length = plC side p lim riv ra rl rc := fun z => by
    obtain ⟨v, rfl⟩ := u2.ex
    rw [List.append_assoc]; exact hP _
  have gS : ∀ z, getB (M2 ++ z) (M.length + 1) = seC j0 j1 j2 j3 Be.length Wt.length Tr.length Sp.length sky step := fun z => by
    obtain ⟨v, rfl⟩ := u2.ex
    rw [List.append_assoc]; exact hS _
  have gP0 := gP []
  have gS0 := gS []
  rw [List.append_nil] at gP0 gS0
  by_cases gt : fgt (some p.dt) (some 0) = true
  case neg =>
    have gt0 := Bool.eq_false_iff.2 gt
    have kt := notS_f gt0
    refine COk_quiet Tryz.f5 Tryz.func5 (by kernel_rfl) rfl ?_
    (conv => whnf); repeat (first | (refine ⟨_, _, hlv, ?_⟩; conv => whnf) | (refine ⟨_, hlv, ?_⟩; conv => whnf) | (refine ⟨_, _, hnew, ?_⟩; conv => whnf) | (refine ⟨_, hnew, ?_⟩; conv => whnf) | (rw [hS0]; conv => whnf) | (rw [hP0]; conv => whnf) | (refine ⟨_, _, hlongS _, ?_⟩; conv => whnf) | (refine ⟨_, hlongS _, ?_⟩; conv => whnf) | (refine ⟨_, _, hall, ?_⟩; conv => whnf) | (refine ⟨_, hall, ?_⟩; conv => whnf) | (rw [gP0]; conv => whnf) | (refine br_yes kt ?_; conv => whnf) | (refine br_no gt0 ?_; conv => whnf) | (refine br_d (by omega) ?_; conv => whnf) | (refine br_nd (by omega) ?_; conv => whnf) | (refine br_eq (by omega) ?_; conv => whnf) | (refine br_neq (by omega) ?_; conv => whnf) | (refine br_ne (by omega) ?_; conv => whnf) | (refine br_no (bo_eqn (by omega)) ?_; conv => whnf) | (refine Or.inl ?_; conv => whnf) | (refine okS_no (by kernel_rfl) ?_; conv => whnf) | (refine okS_yes (by kernel_rfl) ?_; conv => whnf) | (refine And_of (by (conv => whnf); (rw [getB_app0]); (conv => whnf)) ?_; conv => whnf) | (refine setB_app ?_; conv => whnf) | (refine setB_app0 ?_; conv => whnf) | (rw [getB_app]; conv => whnf) | (rw [getB_app0]; conv => whnf) | (refine addB_f13 ?_; conv => whnf) | (refine addB_f12 ?_; conv => whnf) | (refine addB_f11 ?_; conv => whnf) | (refine addB_f10 ?_; conv => whnf) | (refine addB_f9 ?_; conv => whnf) | (refine addB_f8 ?_; conv => whnf) | (refine addB_f7 ?_; conv => whnf) | (refine addB_f6 ?_; conv => whnf) | (refine addB_f5 ?_; conv => whnf) | (refine addB_f4 ?_; conv => whnf) | (refine addB_f3 ?_; conv => whnf) | (refine addB_f2 ?_; conv => whnf) | (refine addB_f1 ?_; conv => whnf) | (refine addB_f0 ?_; conv => whnf))
    exact ⟨rfl, ((u0.trans u1).trans u2).ex⟩
  have kt := notS_t gt
  have hcop := copied13_ok u2.sc T0 (by omega) (by omega) (by omega) (by omega) sky step
  have hcop : COk Tryz.prog 3 21 [seaV j0 j1 j2 j3 Be.length Wt.length Tr.length Sp.length sky step] M2 (.agg [.sk (M2.length + 3) 0 Be.length (Be.length + 9), .sk (M2.length + 7) 0 Wt.length (Wt.length + 9), .sk (M2.length + 9) 0 Tr.length (Tr.length + 9), .sk (M2.length + 5) 0 Sp.length (Sp.length + 9), .int .i64 sky, I step])
      (M2 ++ (cpL M2.length j0 j1 j2 j3 Be.length Wt.length Tr.length Sp.length sky step Be Wt Tr Sp)) := hcop
  have hscm : ∀ (Z' : List Nat), scM (M2 ++ (cpL M2.length j0 j1 j2 j3 Be.length Wt.length Tr.length Sp.length sky step Be Wt Tr Z' ++ ([coC M2.length Be.length Wt.length Tr.length Sp.length sky step] : List Blk))).length (M2 ++ (cpL M2.length j0 j1 j2 j3 Be.length Wt.length Tr.length Sp.length sky step Be Wt Tr Z' ++ ([coC M2.length Be.length Wt.length Tr.length Sp.length sky step] : List Blk))) = true := fun Z' => scM_app (scM_mono (by simp) _ u2.sc) (by simp [scM, B.sc, scL, V.sc]; omega)
  refine COk_quiet Tryz.f5 Tryz.func5 (by kernel_rfl) rfl ?_
  (conv => whnf); repeat (first | (refine ⟨_, _, hlv, ?_⟩; conv => whnf) | (refine ⟨_, hlv, ?_⟩; conv => whnf) | (refine ⟨_, _, hnew, ?_⟩; conv => whnf) | (refine ⟨_, hnew, ?_⟩; conv => whnf) | (rw [hS0]; conv => whnf) | (rw [hP0]; conv => whnf) | (refine ⟨_, _, hlongS _, ?_⟩; conv => whnf) | (refine ⟨_, hlongS _, ?_⟩; conv => whnf) | (refine ⟨_, _, hall, ?_⟩; conv => whnf) | (refine ⟨_, hall, ?_⟩; conv => whnf) | (rw [gP0]; conv => whnf) | (rw [gS0]; conv => whnf) | (refine br_no kt ?_; conv => whnf) | (refine br_yes gt ?_; conv => whnf) | (refine ⟨_, _, hcop, ?_⟩; conv => whnf) | (refine ⟨_, hcop, ?_⟩; conv => whnf) | (refine br_d (by omega) ?_; conv => whnf) | (refine br_nd (by omega) ?_; conv => whnf) | (refine br_eq (by omega) ?_; conv => whnf) | (refine br_neq (by omega) ?_; conv => whnf) | (refine br_ne (by omega) ?_; conv => whnf) | (refine br_no (bo_eqn (by omega)) ?_; conv => whnf) | (refine Or.inl ?_; conv => whnf) | (refine okS_no (by kernel_rfl) ?_; conv => whnf) | (refine okS_yes (by kernel_rfl) ?_; conv => whnf) | (refine And_of (by (conv => whnf); (rw [getB_app0]); (conv => whnf)) ?_; conv => whnf) | (refine setB_app ?_; conv => whnf) | (refine setB_app0 ?_; conv => whnf) | (rw [getB_app]; conv => whnf) | (rw [getB_app0]; conv => whnf) | (refine addB_f13 ?_; conv => whnf) | (refine addB_f12 ?_; conv => whnf) | (refine addB_f11 ?_; conv => whnf) | (refine addB_f10 ?_; conv => whnf) | (refine addB_f9 ?_; conv => whnf) | (refine addB_f8 ?_; conv => whnf) | (refine addB_f7 ?_; conv => whnf) | (refine addB_f6 ?_; conv => whnf) | (refine addB_f5 ?_; conv => whnf) | (refine addB_f4 ?_; conv => whnf) | (refine addB_f3 ?_; conv => whnf) | (refine addB_f2 ?_; conv => whnf) | (refine addB_f1 ?_; conv => whnf) | (refine addB_f0 ?_; conv => whnf))
  refine loop_to (fun c => [.any, .any, .any, .any, .ptr M.length 0, .ptr (M.length + 1) 0, .any, .ptr (b + 1) 0, .any, .sl (M1.length + 2) 0 Sp.length, .ptr (M2.length + 11) 0, I c, .any, .any, .any, .any, .any, .any, .any, .any, .any, .any, .any, .any, .any, .any, .any, .any, .any, .any, .any, .any, .any, .any, .any, .any, .any, .any, .any, .any, .any, .any, .any, .any, .any, .any, .any, .any, .any, .any, .any, .any, .any, .any, .any, .any, .any, .any, .any, .any, .any, .any, .any, .any, .any, .any, .any, .any, .any, .any, .any, .any, .any, .any, .any, .any, .any, .any, .any, .any, .any, .any, .any, .any, .any, .any, .any, .any, .any, .any, .any, .any, .any, .any, .any, .any, .any, .any, .any, .any, .any, .any, .any, .any, .any, .any, .any, .any, .any, .any, .any, .any, .any, .any, .any, .any, .any, .any, .any, .any, .any, .any, .any, .any, .any, .any, .any, .any, .any, .any, .any, .any, .any]) (fun c => M2 ++ (cpL M2.length j0 j1 j2 j3 Be.length Wt.length Tr.length Sp.length sky step Be Wt Tr (updT 0 Sp (fun _ => true) zig c) ++ ([coC M2.length Be.length Wt.length Tr.length Sp.length sky step] : List Blk))) 0 Sp.length (Nat.zero_le _) ?_ ?_ ?_
  · refine Fg.of [] ?_ (by rw [List.append_nil, upd_0]; try rfl) (by simp) (by (simp [scL, V.sc]) <;> omega) (hscm _)
    conv => whnf
    exact ⟨rfl, rfl, rfl, rfl, rfl, rfl, rfl⟩
  · intro c _ hc
    have hx := List.getElem?_eq_getElem (l := edges n) (show c < (edges n).length by omega)
    generalize (edges n)[c] = y at hx
    obtain ⟨c1, c1s, c12, c2, _⟩ := edge_of hn hx
    have hU : (tab Sp.length (fluxT n lim p.dt Be Wt Sp)).getD c 0 = fluxE n lim p.dt Be Wt Sp c y := by rw [tab_get hc, fluxT_at hx]
    have hat0 := fun (z : List Blk) (off : Nat) (K : V → Prop) (e : off = 0 + c * 1) => SlI.at (T2.app z) (i := c) (off := off) (K := K) (by rw [tab_len]; exact hc) e
    rw [hU] at hat0
    obtain ⟨f1, f2, f3⟩ : (fgt (some (Sp.getD c 0)) (some 0) = true → ¬ fluxE n lim p.dt Be Wt Sp c y < 0) ∧ (flt (some (Sp.getD c 0)) (some 0) = true → ¬ 0 < fluxE n lim p.dt Be Wt Sp c y) ∧ (feq (some (Sp.getD c 0)) (some 0) = true → fluxE n lim p.dt Be Wt Sp c y = 0) := by
      have hln := lnE_ne hn hn' hx
      have hi := infR_eq
      exact flux_sg (S2.s3.wf c hc) (recon_word _ _ _ _ _ _) (by omega) hdt (fgt_0 hln.1 hln.2) gt
    generalize fluxE n lim p.dt Be Wt Sp c y = q at *
    have hat : ∀ {z : List Blk} {off : Nat} {K : V → Prop}, off = 0 + c * 1 → K (.int .i64 q) → rd1 (getB (M2 ++ z) (M1.length + 2)).b off K := fun {z off K} e h => hat0 z off K e h
    have rm2 := rem_nat (c := c) (m := 2)
    have rm2 : Int.tmod (c : Int) 2 = ((c % 2 : Nat) : Int) := rm2
    have eS1 : (cpF (updT 0 Sp (fun _ => true) zig c)).set (0 + c * 1) 0 = cpF ((updT 0 Sp (fun _ => true) zig c).set c 0) := cpF_set (by rw [upd_len]; omega)
    by_cases p1 : fgt (some (Sp.getD c 0)) (some 0) = true
    · have p2 := fgt_fltS p1
      have p3 := fgt_feq p1
      have f1 := f1 p1
      by_cases hev : c % 2 = 0
      · have eS2 : (cpF ((updT 0 Sp (fun _ => true) zig c).set c 0)).set (0 + c * 1) 9223372036854775808 = cpF (updT 0 Sp (fun _ => true) zig (c + 1)) := by
          rw [cpF_set (by rw [List.length_set, upd_len]; omega), List.set_set, show (9223372036854775808 : Nat) = zig c from (if_pos hev).symm, upd_set rfl]
        (conv => whnf); repeat (first | (rw [gS]; conv => whnf) | (refine SlF.at (S2.s3.app _) (i := c) hc rfl ?_; conv => whnf) | (refine hat rfl ?_; conv => whnf) | (refine br_yes (cpF_blt (by (rw [upd_len]); omega)) ?_; conv => whnf) | (refine br_yes (cpF_blt' (by (rw [upd_len]); omega)) ?_; conv => whnf) | (refine put_at (blkF eS1) ?_; conv => whnf) | (rw [rm2]; conv => whnf) | (refine ⟨_, _, from13_ok _, ?_⟩; conv => whnf) | (refine ⟨_, from13_ok _, ?_⟩; conv => whnf) | (refine put_at (blkF eS2) ?_; conv => whnf) | (refine br_yes p1 ?_; conv => whnf) | (refine br_no p2 ?_; conv => whnf) | (refine br_no p3 ?_; conv => whnf) | (refine br_d (by omega) ?_; conv => whnf) | (refine br_nd (by omega) ?_; conv => whnf) | (refine br_eq (by omega) ?_; conv => whnf) | (refine br_neq (by omega) ?_; conv => whnf) | (refine br_ne (by omega) ?_; conv => whnf) | (refine br_no (bo_eqn (by omega)) ?_; conv => whnf) | (refine Or.inl ?_; conv => whnf) | (refine okS_no (by kernel_rfl) ?_; conv => whnf) | (refine okS_yes (by kernel_rfl) ?_; conv => whnf) | (refine And_of (by (conv => whnf); (rw [getB_app0]); (conv => whnf)) ?_; conv => whnf) | (refine setB_app ?_; conv => whnf) | (refine setB_app0 ?_; conv => whnf) | (rw [getB_app]; conv => whnf) | (rw [getB_app0]; conv => whnf) | (refine addB_f13 ?_; conv => whnf) | (refine addB_f12 ?_; conv => whnf) | (refine addB_f11 ?_; conv => whnf) | (refine addB_f10 ?_; conv => whnf) | (refine addB_f9 ?_; conv => whnf) | (refine addB_f8 ?_; conv => whnf) | (refine addB_f7 ?_; conv => whnf) | (refine addB_f6 ?_; conv => whnf) | (refine addB_f5 ?_; conv => whnf) | (refine addB_f4 ?_; conv => whnf) | (refine addB_f3 ?_; conv => whnf) | (refine addB_f2 ?_; conv => whnf) | (refine addB_f1 ?_; conv => whnf) | (refine addB_f0 ?_; conv => whnf))
        refine Fg.of [] ?_ (by rw [List.append_nil]; try rfl) (by simp) (by (simp [scL, V.sc]) <;> omega) (hscm _)
        conv => whnf
        exact ⟨rfl, rfl, rfl, rfl, rfl, wrapKL (by omega), rfl⟩
      · have eS3 : cpF ((updT 0 Sp (fun _ => true) zig c).set c 0) = cpF (updT 0 Sp (fun _ => true) zig (c + 1)) := by
          rw [show (0 : Nat) = zig c from (if_neg hev).symm, upd_set rfl]
        (conv => whnf); repeat (first | (rw [gS]; conv => whnf) | (refine SlF.at (S2.s3.app _) (i := c) hc rfl ?_; conv => whnf) | (refine hat rfl ?_; conv => whnf) | (refine br_yes (cpF_blt (by (rw [upd_len]); omega)) ?_; conv => whnf) | (refine br_yes (cpF_blt' (by (rw [upd_len]); omega)) ?_; conv => whnf) | (refine put_at (blkF eS1) ?_; conv => whnf) | (rw [rm2]; conv => whnf) | (refine br_yes p1 ?_; conv => whnf) | (refine br_no p2 ?_; conv => whnf) | (refine br_no p3 ?_; conv => whnf) | (refine br_d (by omega) ?_; conv => whnf) | (refine br_nd (by omega) ?_; conv => whnf) | (refine br_eq (by omega) ?_; conv => whnf) | (refine br_neq (by omega) ?_; conv => whnf) | (refine br_ne (by omega) ?_; conv => whnf) | (refine br_no (bo_eqn (by omega)) ?_; conv => whnf) | (refine Or.inl ?_; conv => whnf) | (refine okS_no (by kernel_rfl) ?_; conv => whnf) | (refine okS_yes (by kernel_rfl) ?_; conv => whnf) | (refine And_of (by (conv => whnf); (rw [getB_app0]); (conv => whnf)) ?_; conv => whnf) | (refine setB_app ?_; conv => whnf) | (refine setB_app0 ?_; conv => whnf) | (rw [getB_app]; conv => whnf) | (rw [getB_app0]; conv => whnf) | (refine addB_f13 ?_; conv => whnf) | (refine addB_f12 ?_; conv => whnf) | (refine addB_f11 ?_; conv => whnf) | (refine addB_f10 ?_; conv => whnf) | (refine addB_f9 ?_; conv => whnf) | (refine addB_f8 ?_; conv => whnf) | (refine addB_f7 ?_; conv => whnf) | (refine addB_f6 ?_; conv => whnf) | (refine addB_f5 ?_; conv => whnf) | (refine addB_f4 ?_; conv => whnf) | (refine addB_f3 ?_; conv => whnf) | (refine addB_f2 ?_; conv => whnf) | (refine addB_f1 ?_; conv => whnf) | (refine addB_f0 ?_; conv => whnf))
        refine Fg.of [] ?_ (by rw [List.append_nil, eS3]; try rfl) (by simp) (by (simp [scL, V.sc]) <;> omega) (hscm _)
        conv => whnf
        exact ⟨rfl, rfl, rfl, rfl, rfl, wrapKL (by omega), rfl⟩
    have p1 := Bool.eq_false_iff.2 p1
    by_cases p2 : flt (some (Sp.getD c 0)) (some 0) = true
    · have p3 := flt_feq p2
      have f2 := f2 p2
      by_cases hev : c % 2 = 0
      · have eS2 : (cpF ((updT 0 Sp (fun _ => true) zig c).set c 0)).set (0 + c * 1) 9223372036854775808 = cpF (updT 0 Sp (fun _ => true) zig (c + 1)) := by
          rw [cpF_set (by rw [List.length_set, upd_len]; omega), List.set_set, show (9223372036854775808 : Nat) = zig c from (if_pos hev).symm, upd_set rfl]
        (conv => whnf); repeat (first | (rw [gS]; conv => whnf) | (refine SlF.at (S2.s3.app _) (i := c) hc rfl ?_; conv => whnf) | (refine hat rfl ?_; conv => whnf) | (refine br_yes (cpF_blt (by (rw [upd_len]); omega)) ?_; conv => whnf) | (refine br_yes (cpF_blt' (by (rw [upd_len]); omega)) ?_; conv => whnf) | (refine put_at (blkF eS1) ?_; conv => whnf) | (rw [rm2]; conv => whnf) | (refine ⟨_, _, from13_ok _, ?_⟩; conv => whnf) | (refine ⟨_, from13_ok _, ?_⟩; conv => whnf) | (refine put_at (blkF eS2) ?_; conv => whnf) | (refine br_no p1 ?_; conv => whnf) | (refine br_yes p2 ?_; conv => whnf) | (refine br_no p3 ?_; conv => whnf) | (refine br_d (by omega) ?_; conv => whnf) | (refine br_nd (by omega) ?_; conv => whnf) | (refine br_eq (by omega) ?_; conv => whnf) | (refine br_neq (by omega) ?_; conv => whnf) | (refine br_ne (by omega) ?_; conv => whnf) | (refine br_no (bo_eqn (by omega)) ?_; conv => whnf) | (refine Or.inl ?_; conv => whnf) | (refine okS_no (by kernel_rfl) ?_; conv => whnf) | (refine okS_yes (by kernel_rfl) ?_; conv => whnf) | (refine And_of (by (conv => whnf); (rw [getB_app0]); (conv => whnf)) ?_; conv => whnf) | (refine setB_app ?_; conv => whnf) | (refine setB_app0 ?_; conv => whnf) | (rw [getB_app]; conv => whnf) | (rw [getB_app0]; conv => whnf) | (refine addB_f13 ?_; conv => whnf) | (refine addB_f12 ?_; conv => whnf) | (refine addB_f11 ?_; conv => whnf) | (refine addB_f10 ?_; conv => whnf) | (refine addB_f9 ?_; conv => whnf) | (refine addB_f8 ?_; conv => whnf) | (refine addB_f7 ?_; conv => whnf) | (refine addB_f6 ?_; conv => whnf) | (refine addB_f5 ?_; conv => whnf) | (refine addB_f4 ?_; conv => whnf) | (refine addB_f3 ?_; conv => whnf) | (refine addB_f2 ?_; conv => whnf) | (refine addB_f1 ?_; conv => whnf) | (refine addB_f0 ?_; conv => whnf))
        refine Fg.of [] ?_ (by rw [List.append_nil]; try rfl) (by simp) (by (simp [scL, V.sc]) <;> omega) (hscm _)
        conv => whnf
        exact ⟨rfl, rfl, rfl, rfl, rfl, wrapKL (by omega), rfl⟩
      · have eS3 : cpF ((updT 0 Sp (fun _ => true) zig c).set c 0) = cpF (updT 0 Sp (fun _ => true) zig (c + 1)) := by
          rw [show (0 : Nat) = zig c from (if_neg hev).symm, upd_set rfl]
        (conv => whnf); repeat (first | (rw [gS]; conv => whnf) | (refine SlF.at (S2.s3.app _) (i := c) hc rfl ?_; conv => whnf) | (refine hat rfl ?_; conv => whnf) | (refine br_yes (cpF_blt (by (rw [upd_len]); omega)) ?_; conv => whnf) | (refine br_yes (cpF_blt' (by (rw [upd_len]); omega)) ?_; conv => whnf) | (refine put_at (blkF eS1) ?_; conv => whnf) | (rw [rm2]; conv => whnf) | (refine br_no p1 ?_; conv => whnf) | (refine br_yes p2 ?_; conv => whnf) | (refine br_no p3 ?_; conv => whnf) | (refine br_d (by omega) ?_; conv => whnf) | (refine br_nd (by omega) ?_; conv => whnf) | (refine br_eq (by omega) ?_; conv => whnf) | (refine br_neq (by omega) ?_; conv => whnf) | (refine br_ne (by omega) ?_; conv => whnf) | (refine br_no (bo_eqn (by omega)) ?_; conv => whnf) | (refine Or.inl ?_; conv => whnf) | (refine okS_no (by kernel_rfl) ?_; conv => whnf) | (refine okS_yes (by kernel_rfl) ?_; conv => whnf) | (refine And_of (by (conv => whnf); (rw [getB_app0]); (conv => whnf)) ?_; conv => whnf) | (refine setB_app ?_; conv => whnf) | (refine setB_app0 ?_; conv => whnf) | (rw [getB_app]; conv => whnf) | (rw [getB_app0]; conv => whnf) | (refine addB_f13 ?_; conv => whnf) | (refine addB_f12 ?_; conv => whnf) | (refine addB_f11 ?_; conv => whnf) | (refine addB_f10 ?_; conv => whnf) | (refine addB_f9 ?_; conv => whnf) | (refine addB_f8 ?_; conv => whnf) | (refine addB_f7 ?_; conv => whnf) | (refine addB_f6 ?_; conv => whnf) | (refine addB_f5 ?_; conv => whnf) | (refine addB_f4 ?_; conv => whnf) | (refine addB_f3 ?_; conv => whnf) | (refine addB_f2 ?_; conv => whnf) | (refine addB_f1 ?_; conv => whnf) | (refine addB_f0 ?_; conv => whnf))
        refine Fg.of [] ?_ (by rw [List.append_nil, eS3]; try rfl) (by simp) (by (simp [scL, V.sc]) <;> omega) (hscm _)
        conv => whnf
        exact ⟨rfl, rfl, rfl, rfl, rfl, wrapKL (by omega), rfl⟩
    have p2 := Bool.eq_false_iff.2 p2
    by_cases p3 : feq (some (Sp.getD c 0)) (some 0) = true
    · have f3 := f3 p3
      by_cases hev : c % 2 = 0
      · have eS2 : (cpF ((updT 0 Sp (fun _ => true) zig c).set c 0)).set (0 + c * 1) 9223372036854775808 = cpF (updT 0 Sp (fun _ => true) zig (c + 1)) := by
          rw [cpF_set (by rw [List.length_set, upd_len]; omega), List.set_set, show (9223372036854775808 : Nat) = zig c from (if_pos hev).symm, upd_set rfl]
        (conv => whnf); repeat (first | (rw [gS]; conv => whnf) | (refine SlF.at (S2.s3.app _) (i := c) hc rfl ?_; conv => whnf) | (refine hat rfl ?_; conv => whnf) | (refine br_yes (cpF_blt (by (rw [upd_len]); omega)) ?_; conv => whnf) | (refine br_yes (cpF_blt' (by (rw [upd_len]); omega)) ?_; conv => whnf) | (refine put_at (blkF eS1) ?_; conv => whnf) | (rw [rm2]; conv => whnf) | (refine ⟨_, _, from13_ok _, ?_⟩; conv => whnf) | (refine ⟨_, from13_ok _, ?_⟩; conv => whnf) | (refine put_at (blkF eS2) ?_; conv => whnf) | (refine br_no p1 ?_; conv => whnf) | (refine br_no p2 ?_; conv => whnf) | (refine br_yes p3 ?_; conv => whnf) | (refine br_d (by omega) ?_; conv => whnf) | (refine br_nd (by omega) ?_; conv => whnf) | (refine br_eq (by omega) ?_; conv => whnf) | (refine br_neq (by omega) ?_; conv => whnf) | (refine br_ne (by omega) ?_; conv => whnf) | (refine br_no (bo_eqn (by omega)) ?_; conv => whnf) | (refine Or.inl ?_; conv => whnf) | (refine okS_no (by kernel_rfl) ?_; conv => whnf) | (refine okS_yes (by kernel_rfl) ?_; conv => whnf) | (refine And_of (by (conv => whnf); (rw [getB_app0]); (conv => whnf)) ?_; conv => whnf) | (refine setB_app ?_; conv => whnf) | (refine setB_app0 ?_; conv => whnf) | (rw [getB_app]; conv => whnf) | (rw [getB_app0]; conv => whnf) | (refine addB_f13 ?_; conv => whnf) | (refine addB_f12 ?_; conv => whnf) | (refine addB_f11 ?_; conv => whnf) | (refine addB_f10 ?_; conv => whnf) | (refine addB_f9 ?_; conv => whnf) | (refine addB_f8 ?_; conv => whnf) | (refine addB_f7 ?_; conv => whnf) | (refine addB_f6 ?_; conv => whnf) | (refine addB_f5 ?_; conv => whnf) | (refine addB_f4 ?_; conv => whnf) | (refine addB_f3 ?_; conv => whnf) | (refine addB_f2 ?_; conv => whnf) | (refine addB_f1 ?_; conv => whnf) | (refine addB_f0 ?_; conv => whnf))
        refine Fg.of [] ?_ (by rw [List.append_nil]; try rfl) (by simp) (by (simp [scL, V.sc]) <;> omega) (hscm _)
        conv => whnf
        exact ⟨rfl, rfl, rfl, rfl, rfl, wrapKL (by omega), rfl⟩
      · have eS3 : cpF ((updT 0 Sp (fun _ => true) zig c).set c 0) = cpF (updT 0 Sp (fun _ => true) zig (c + 1)) := by
          rw [show (0 : Nat) = zig c from (if_neg hev).symm, upd_set rfl]
        (conv => whnf); repeat (first | (rw [gS]; conv => whnf) | (refine SlF.at (S2.s3.app _) (i := c) hc rfl ?_; conv => whnf) | (refine hat rfl ?_; conv => whnf) | (refine br_yes (cpF_blt (by (rw [upd_len]); omega)) ?_; conv => whnf) | (refine br_yes (cpF_blt' (by (rw [upd_len]); omega)) ?_; conv => whnf) | (refine put_at (blkF eS1) ?_; conv => whnf) | (rw [rm2]; conv => whnf) | (refine br_no p1 ?_; conv => whnf) | (refine br_no p2 ?_; conv => whnf) | (refine br_yes p3 ?_; conv => whnf) | (refine br_d (by omega) ?_; conv => whnf) | (refine br_nd (by omega) ?_; conv => whnf) | (refine br_eq (by omega) ?_; conv => whnf) | (refine br_neq (by omega) ?_; conv => whnf) | (refine br_ne (by omega) ?_; conv => whnf) | (refine br_no (bo_eqn (by omega)) ?_; conv => whnf) | (refine Or.inl ?_; conv => whnf) | (refine okS_no (by kernel_rfl) ?_; conv => whnf) | (refine okS_yes (by kernel_rfl) ?_; conv => whnf) | (refine And_of (by (conv => whnf); (rw [getB_app0]); (conv => whnf)) ?_; conv => whnf) | (refine setB_app ?_; conv => whnf) | (refine setB_app0 ?_; conv => whnf) | (rw [getB_app]; conv => whnf) | (rw [getB_app0]; conv => whnf) | (refine addB_f13 ?_; conv => whnf) | (refine addB_f12 ?_; conv => whnf) | (refine addB_f11 ?_; conv => whnf) | (refine addB_f10 ?_; conv => whnf) | (refine addB_f9 ?_; conv => whnf) | (refine addB_f8 ?_; conv => whnf) | (refine addB_f7 ?_; conv => whnf) | (refine addB_f6 ?_; conv => whnf) | (refine addB_f5 ?_; conv => whnf) | (refine addB_f4 ?_; conv => whnf) | (refine addB_f3 ?_; conv => whnf) | (refine addB_f2 ?_; conv => whnf) | (refine addB_f1 ?_; conv => whnf) | (refine addB_f0 ?_; conv => whnf))
        refine Fg.of [] ?_ (by rw [List.append_nil, eS3]; try rfl) (by simp) (by (simp [scL, V.sc]) <;> omega) (hscm _)
        conv => whnf
        exact ⟨rfl, rfl, rfl, rfl, rfl, wrapKL (by omega), rfl⟩
    have p3 := Bool.eq_false_iff.2 p3
    · skip
      by_cases hev : c % 2 = 0
      · have eS2 : (cpF ((updT 0 Sp (fun _ => true) zig c).set c 0)).set (0 + c * 1) 9223372036854775808 = cpF (updT 0 Sp (fun _ => true) zig (c + 1)) := by
          rw [cpF_set (by rw [List.length_set, upd_len]; omega), List.set_set, show (9223372036854775808 : Nat) = zig c from (if_pos hev).symm, upd_set rfl]
        (conv => whnf); repeat (first | (rw [gS]; conv => whnf) | (refine SlF.at (S2.s3.app _) (i := c) hc rfl ?_; conv => whnf) | (refine hat rfl ?_; conv => whnf) | (refine br_yes (cpF_blt (by (rw [upd_len]); omega)) ?_; conv => whnf) | (refine br_yes (cpF_blt' (by (rw [upd_len]); omega)) ?_; conv => whnf) | (refine put_at (blkF eS1) ?_; conv => whnf) | (rw [rm2]; conv => whnf) | (refine ⟨_, _, from13_ok _, ?_⟩; conv => whnf) | (refine ⟨_, from13_ok _, ?_⟩; conv => whnf) | (refine put_at (blkF eS2) ?_; conv => whnf) | (refine br_no p1 ?_; conv => whnf) | (refine br_no p2 ?_; conv => whnf) | (refine br_no p3 ?_; conv => whnf) | (refine br_d (by omega) ?_; conv => whnf) | (refine br_nd (by omega) ?_; conv => whnf) | (refine br_eq (by omega) ?_; conv => whnf) | (refine br_neq (by omega) ?_; conv => whnf) | (refine br_ne (by omega) ?_; conv => whnf) | (refine br_no (bo_eqn (by omega)) ?_; conv => whnf) | (refine Or.inl ?_; conv => whnf) | (refine okS_no (by kernel_rfl) ?_; conv => whnf) | (refine okS_yes (by kernel_rfl) ?_; conv => whnf) | (refine And_of (by (conv => whnf); (rw [getB_app0]); (conv => whnf)) ?_; conv => whnf) | (refine setB_app ?_; conv => whnf) | (refine setB_app0 ?_; conv => whnf) | (rw [getB_app]; conv => whnf) | (rw [getB_app0]; conv => whnf) | (refine addB_f13 ?_; conv => whnf) | (refine addB_f12 ?_; conv => whnf) | (refine addB_f11 ?_; conv => whnf) | (refine addB_f10 ?_; conv => whnf) | (refine addB_f9 ?_; conv => whnf) | (refine addB_f8 ?_; conv => whnf) | (refine addB_f7 ?_; conv => whnf) | (refine addB_f6 ?_; conv => whnf) | (refine addB_f5 ?_; conv => whnf) | (refine addB_f4 ?_; conv => whnf) | (refine addB_f3 ?_; conv => whnf) | (refine addB_f2 ?_; conv => whnf) | (refine addB_f1 ?_; conv => whnf) | (refine addB_f0 ?_; conv => whnf))
        refine Fg.of [] ?_ (by rw [List.append_nil]; try rfl) (by simp) (by (simp [scL, V.sc]) <;> omega) (hscm _)
        conv => whnf
        exact ⟨rfl, rfl, rfl, rfl, rfl, wrapKL (by omega), rfl⟩
      · have eS3 : cpF ((updT 0 Sp (fun _ => true) zig c).set c 0) = cpF (updT 0 Sp (fun _ => true) zig (c + 1)) := by
          rw [show (0 : Nat) = zig c from (if_neg hev).symm, upd_set rfl]
        (conv => whnf); repeat (first | (rw [gS]; conv => whnf) | (refine SlF.at (S2.s3.app _) (i := c) hc rfl ?_; conv => whnf) | (refine hat rfl ?_; conv => whnf) | (refine br_yes (cpF_blt (by (rw [upd_len]); omega)) ?_; conv => whnf) | (refine br_yes (cpF_blt' (by (rw [upd_len]); omega)) ?_; conv => whnf) | (refine put_at (blkF eS1) ?_; conv => whnf) | (rw [rm2]; conv => whnf) | (refine br_no p1 ?_; conv => whnf) | (refine br_no p2 ?_; conv => whnf) | (refine br_no p3 ?_; conv => whnf) | (refine br_d (by omega) ?_; conv => whnf) | (refine br_nd (by omega) ?_; conv => whnf) | (refine br_eq (by omega) ?_; conv => whnf) | (refine br_neq (by omega) ?_; conv => whnf) | (refine br_ne (by omega) ?_; conv => whnf) | (refine br_no (bo_eqn (by omega)) ?_; conv => whnf) | (refine Or.inl ?_; conv => whnf) | (refine okS_no (by kernel_rfl) ?_; conv => whnf) | (refine okS_yes (by kernel_rfl) ?_; conv => whnf) | (refine And_of (by (conv => whnf); (rw [getB_app0]); (conv => whnf)) ?_; conv => whnf) | (refine setB_app ?_; conv => whnf) | (refine setB_app0 ?_; conv => whnf) | (rw [getB_app]; conv => whnf) | (rw [getB_app0]; conv => whnf) | (refine addB_f13 ?_; conv => whnf) | (refine addB_f12 ?_; conv => whnf) | (refine addB_f11 ?_; conv => whnf) | (refine addB_f10 ?_; conv => whnf) | (refine addB_f9 ?_; conv => whnf) | (refine addB_f8 ?_; conv => whnf) | (refine addB_f7 ?_; conv => whnf) | (refine addB_f6 ?_; conv => whnf) | (refine addB_f5 ?_; conv => whnf) | (refine addB_f4 ?_; conv => whnf) | (refine addB_f3 ?_; conv => whnf) | (refine addB_f2 ?_; conv => whnf) | (refine addB_f1 ?_; conv => whnf) | (refine addB_f0 ?_; conv => whnf))
        refine Fg.of [] ?_ (by rw [List.append_nil, eS3]; try rfl) (by simp) (by (simp [scL, V.sc]) <;> omega) (hscm _)
        conv => whnf
        exact ⟨rfl, rfl, rfl, rfl, rfl, wrapKL (by omega), rfl⟩
  · (conv => whnf); repeat (first | (refine br_d (by omega) ?_; conv => whnf) | (refine br_nd (by omega) ?_; conv => whnf) | (refine br_eq (by omega) ?_; conv => whnf) | (refine br_neq (by omega) ?_; conv => whnf) | (refine br_ne (by omega) ?_; conv => whnf) | (refine br_no (bo_eqn (by omega)) ?_; conv => whnf) | (refine Or.inl ?_; conv => whnf) | (refine okS_no (by kernel_rfl) ?_; conv => whnf) | (refine okS_yes (by kernel_rfl) ?_; conv => whnf) | (refine And_of (by (conv => whnf); (rw [getB_app0]); (conv => whnf)) ?_; conv => whnf) | (refine setB_app ?_; conv => whnf) | (refine setB_app0 ?_; conv => whnf) | (rw [getB_app]; conv => whnf) | (rw [getB_app0]; conv => whnf) | (refine addB_f13 ?_; conv => whnf) | (refine addB_f12 ?_; conv => whnf) | (refine addB_f11 ?_; conv => whnf) | (refine addB_f10 ?_; conv => whnf) | (refine addB_f9 ?_; conv => whnf) | (refine addB_f8 ?_; conv => whnf) | (refine addB_f7 ?_; conv => whnf) | (refine addB_f6 ?_; conv => whnf) | (refine addB_f5 ?_; conv => whnf) | (refine addB_f4 ?_; conv => whnf) | (refine addB_f3 ?_; conv => whnf) | (refine addB_f2 ?_; conv => whnf) | (refine addB_f1 ?_; conv => whnf) | (refine addB_f0 ?_; conv => whnf))
    generalize hSx : updT 0 Sp (fun _ => true) zig Sp.length = Sx
    have lS : Sx.length = Sp.length := by rw [← hSx]; exact upd_len _ _ _ _ _
    have hZx : ∀ i, i < Sp.length → Sx.getD i 0 = zig i := fun i hi => by
      rw [← hSx]; unfold updT; rw [tab_get hi, if_pos ⟨hi, rfl⟩]
    obtain ⟨M4, hM4⟩ : ∃ M4, M4 = M2 ++ (cpL M2.length j0 j1 j2 j3 Be.length Wt.length Tr.length Sp.length sky step Be Wt Tr Sx ++ ([coC M2.length Be.length Wt.length Tr.length Sp.length sky step] : List Blk)) := ⟨_, rfl⟩
    have hS3 : SeaR M4 (M2.length + 3) (M2.length + 7) (M2.length + 9) (M2.length + 5) Be Wt Tr Sx := by
      rw [hM4]
      exact ⟨cop_F (getB_app 3) S2.s0.wf (by omega), cop_I (getB_app 7) S2.s1.wf (by omega), cop_I (getB_app 9) S2.s2.wf (by omega),
        cop_F (getB_app 5) (fun i hi => by rw [hZx i (by omega)]; exact zig_in i) (by omega)⟩
    have sc4 : scM M4.length M4 = true := by rw [hM4]; exact hscm Sx
    have u4 : Up M2 M4 := ⟨⟨_, hM4⟩, sc4⟩
    have hl4 := u4.len
    have hf3 : Fit n Be.length Wt.length Tr.length Sx.length := by rw [lS]; exact hf
    obtain ⟨M5, hall5, u5, e5, T5, _⟩ := All_up sc4 (hN2.up u4) hS3 sky step hf3 hn hn' side p lim riv ra rl rc
    rw [lS] at hall5 T5
    have hall5 := sk_3' (k0 := Be.length + 9) (k1 := Wt.length + 9) (k2 := Tr.length + 9) (k3 := Sp.length + 9) hall5
    rw [hM4] at hall5
    rw [← hM4] at hall5
    have kP : getB M4 M.length = plC side p lim riv ra rl rc := by rw [hM4]; exact gP _
    have kT : getB M4 (M2.length + 11) = coC M2.length Be.length Wt.length Tr.length Sp.length sky step := by rw [hM4]; exact getB_app 11
    rw [← hM4]
    (conv => whnf); repeat (first | (rw [kP]; conv => whnf) | (rw [kT]; conv => whnf) | (refine ⟨_, _, hall5, ?_⟩; conv => whnf) | (refine ⟨_, hall5, ?_⟩; conv => whnf) | (refine br_d (by omega) ?_; conv => whnf) | (refine br_nd (by omega) ?_; conv => whnf) | (refine br_eq (by omega) ?_; conv => whnf) | (refine br_neq (by omega) ?_; conv => whnf) | (refine br_ne (by omega) ?_; conv => whnf) | (refine br_no (bo_eqn (by omega)) ?_; conv => whnf) | (refine Or.inl ?_; conv => whnf) | (refine okS_no (by kernel_rfl) ?_; conv => whnf) | (refine okS_yes (by kernel_rfl) ?_; conv => whnf) | (refine And_of (by (conv => whnf); (rw [getB_app0]); (conv => whnf)) ?_; conv => whnf) | (refine setB_app ?_; conv => whnf) | (refine setB_app0 ?_; conv => whnf) | (rw [getB_app]; conv => whnf) | (rw [getB_app0]; conv => whnf) | (refine addB_f13 ?_; conv => whnf) | (refine addB_f12 ?_; conv => whnf) | (refine addB_f11 ?_; conv => whnf) | (refine addB_f10 ?_; conv => whnf) | (refine addB_f9 ?_; conv => whnf) | (refine addB_f8 ?_; conv => whnf) | (refine addB_f7 ?_; conv => whnf) | (refine addB_f6 ?_; conv => whnf) | (refine addB_f5 ?_; conv => whnf) | (refine addB_f4 ?_; conv => whnf) | (refine addB_f3 ?_; conv => whnf) | (refine addB_f2 ?_; conv => whnf) | (refine addB_f1 ?_; conv => whnf) | (refine addB_f0 ?_; conv => whnf))
    refine loop_to (fun c => [.any, .any, .any, .any, .any, .any, .any, .any, I 0, .sl (M1.length + 2) 0 Sp.length, .any, .any, .any, .sl (M4.length + 2) 0 Sp.length, I c, .any, .any, .any, .any, .any, .any, .any, .any, .any, .any, .any, .any, .any, .any, .any, .any, .any, .any, .any, .any, .any, .any, .any, .any, .any, .any, .any, .any, .any, .any, .any, .any, .any, .any, .any, .any, .any, .any, .any, .any, .any, .any, .any, .any, .any, .any, .any, .any, .any, .any, .any, .any, .any, .any, .any, .any, .any, .any, .any, .any, .any, .any, .any, .any, .any, .any, .any, .any, .any, .any, .any, .any, .any, .any, .any, .any, .any, .any, .any, .any, .any, .any, .any, .any, .any, .any, .any, .any, .any, .any, .any, .any, .any, .any, .any, .any, .any, .any, .any, .any, .any, .any, .any, .any, .any, .any, .any, .any, .any, .any, .any, .any, .any, .any, .any, .any, .any, .any]) (fun c => M5) 0 Sp.length (Nat.zero_le _) ?_ ?_ ?_
    · refine Fg.of [] ?_ (by rw [List.append_nil]; try rfl) (by simp) (by (simp [scL, V.sc]) <;> omega) u5.sc
      conv => whnf
      exact ⟨rfl, rfl, rfl, rfl, rfl⟩
    · intro c _ hc
      have hx := List.getElem?_eq_getElem (l := edges n) (show c < (edges n).length by omega)
      generalize (edges n)[c] = y at hx
      have hU : (tab Sp.length (fluxT n lim p.dt Be Wt Sx)).getD c 0 = 0 := by
        rw [tab_get hc, fluxT_at hx]
        unfold fluxE
        rw [hZx c hc]
        exact quant_zu (zig_in c) (zig_0 c) _ _ _
      have hat0 := fun (off : Nat) (K : V → Prop) (e : off = 0 + c * 1) => SlI.at T5 (i := c) (off := off) (K := K) (by rw [tab_len]; exact hc) e
      rw [hU] at hat0
      (conv => whnf); repeat (first | (refine hat0 _ _ rfl ?_; conv => whnf) | (refine br_d (by omega) ?_; conv => whnf) | (refine br_nd (by omega) ?_; conv => whnf) | (refine br_eq (by omega) ?_; conv => whnf) | (refine br_neq (by omega) ?_; conv => whnf) | (refine br_ne (by omega) ?_; conv => whnf) | (refine br_no (bo_eqn (by omega)) ?_; conv => whnf) | (refine Or.inl ?_; conv => whnf) | (refine okS_no (by kernel_rfl) ?_; conv => whnf) | (refine okS_yes (by kernel_rfl) ?_; conv => whnf) | (refine And_of (by (conv => whnf); (rw [getB_app0]); (conv => whnf)) ?_; conv => whnf) | (refine setB_app ?_; conv => whnf) | (refine setB_app0 ?_; conv => whnf) | (rw [getB_app]; conv => whnf) | (rw [getB_app0]; conv => whnf) | (refine addB_f13 ?_; conv => whnf) | (refine addB_f12 ?_; conv => whnf) | (refine addB_f11 ?_; conv => whnf) | (refine addB_f10 ?_; conv => whnf) | (refine addB_f9 ?_; conv => whnf) | (refine addB_f8 ?_; conv => whnf) | (refine addB_f7 ?_; conv => whnf) | (refine addB_f6 ?_; conv => whnf) | (refine addB_f5 ?_; conv => whnf) | (refine addB_f4 ?_; conv => whnf) | (refine addB_f3 ?_; conv => whnf) | (refine addB_f2 ?_; conv => whnf) | (refine addB_f1 ?_; conv => whnf) | (refine addB_f0 ?_; conv => whnf))
      refine Fg.of [] ?_ (by rw [List.append_nil]; try rfl) (by simp) (by (simp [scL, V.sc]) <;> omega) u5.sc
      conv => whnf
      exact ⟨rfl, rfl, rfl, wrapKL (by omega), rfl⟩
    · (conv => whnf); repeat (first | (refine br_d (by omega) ?_; conv => whnf) | (refine br_nd (by omega) ?_; conv => whnf) | (refine br_eq (by omega) ?_; conv => whnf) | (refine br_neq (by omega) ?_; conv => whnf) | (refine br_ne (by omega) ?_; conv => whnf) | (refine br_no (bo_eqn (by omega)) ?_; conv => whnf) | (refine Or.inl ?_; conv => whnf) | (refine okS_no (by kernel_rfl) ?_; conv => whnf) | (refine okS_yes (by kernel_rfl) ?_; conv => whnf) | (refine And_of (by (conv => whnf); (rw [getB_app0]); (conv => whnf)) ?_; conv => whnf) | (refine setB_app ?_; conv => whnf) | (refine setB_app0 ?_; conv => whnf) | (rw [getB_app]; conv => whnf) | (rw [getB_app0]; conv => whnf) | (refine addB_f13 ?_; conv => whnf) | (refine addB_f12 ?_; conv => whnf) | (refine addB_f11 ?_; conv => whnf) | (refine addB_f10 ?_; conv => whnf) | (refine addB_f9 ?_; conv => whnf) | (refine addB_f8 ?_; conv => whnf) | (refine addB_f7 ?_; conv => whnf) | (refine addB_f6 ?_; conv => whnf) | (refine addB_f5 ?_; conv => whnf) | (refine addB_f4 ?_; conv => whnf) | (refine addB_f3 ?_; conv => whnf) | (refine addB_f2 ?_; conv => whnf) | (refine addB_f1 ?_; conv => whnf) | (refine addB_f0 ?_; conv => whnf))
      exact ⟨congrArg V.bool (by simp), (((u0.trans u1).trans u2).trans (u4.trans u5)).ex⟩
end Go.Proofs.YtemaeembndobaaaGreatDoor
