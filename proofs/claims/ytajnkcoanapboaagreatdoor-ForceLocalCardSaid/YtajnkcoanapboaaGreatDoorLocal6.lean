/- The statement ForceLocal: its contract. No condition. -/
import Derived.Test.YtajnkcoanapboaaGreatDoorLi6
import Derived.Test.YtajnkcoanapboaaGreatDoorCw
import Derived.Test.YtajnkcoanapboaaGreatDoorFp
namespace Go.Proofs.YtajnkcoanapboaaGreatDoor
open Go Go.Eng
set_option maxRecDepth 100000
set_option linter.unusedSimpArgs false
set_option linter.unusedVariables false

section
variable {α : Type}
/-- A list whose first k places are new where P says so. -/
def updT (d : α) (l : List α) (P : Nat → Bool) (G : Nat → α) (k : Nat) : List α := tab l.length fun i => if i < k ∧ P i = true then G i else l.getD i d
theorem upd_len (d : α) (l : List α) (P : Nat → Bool) (G : Nat → α) (k : Nat) : (updT d l P G k).length = l.length := tab_len _ _
theorem upd_0 (d : α) (l : List α) (P : Nat → Bool) (G : Nat → α) : updT d l P G 0 = l := by
  conv => rhs; rw [tab_list l d]
  exact tab_congr fun i _ => by rw [if_neg (by omega)]
theorem upd_set {d : α} {l : List α} {P : Nat → Bool} {G : Nat → α} {k : Nat} (hp : P k = true) : (updT d l P G k).set k (G k) = updT d l P G (k + 1) := by
  unfold updT
  rw [tab_set]
  refine tab_congr fun i _ => ?_
  by_cases h : i = k
  · subst h; rw [if_pos rfl, if_pos ⟨by omega, hp⟩]
  · rw [if_neg h]
    by_cases h2 : i < k ∧ P i = true
    · rw [if_pos h2, if_pos ⟨by omega, h2.2⟩]
    · rw [if_neg h2, if_neg (fun h3 => h2 ⟨by omega, h3.2⟩)]
theorem upd_skip {d : α} {l : List α} {P : Nat → Bool} {G : Nat → α} {k : Nat} (hp : P k = false) : updT d l P G k = updT d l P G (k + 1) := by
  refine tab_congr fun i _ => ?_
  by_cases h2 : i < k ∧ P i = true
  · rw [if_pos h2, if_pos ⟨by omega, h2.2⟩]
  · rw [if_neg h2, if_neg]
    intro h3
    rcases Nat.lt_or_ge i k with h | h
    · exact h2 ⟨h, h3.2⟩
    · obtain rfl : i = k := by omega
      have := h3.2
      rw [hp] at this
      cases this
theorem upd_at {d : α} {l : List α} {P : Nat → Bool} {G : Nat → α} {k i : Nat} (hi : i < l.length) (hp : P i = false) : (updT d l P G k).getD i d = l.getD i d := by
  unfold updT
  rw [tab_get hi, if_neg (fun h => by rw [hp] at h; cases h.2)]
theorem upd_wf {d : α} {l : List α} {P : Nat → Bool} {G : Nat → α} {k : Nat} {p : α → Prop} (h : ∀ i, i < l.length → p (l.getD i d)) (hg : ∀ i, i < l.length → p (G i)) : ∀ i, i < (updT d l P G k).length → p ((updT d l P G k).getD i d) := by
  intro i hi
  rw [upd_len] at hi
  unfold updT
  rw [tab_get hi]
  split
  · exact hg i hi
  · exact h i hi
end
theorem rem_nat {c m : Nat} : Int.tmod (c : Int) (m : Int) = ((c % m : Nat) : Int) := by
  rw [Int.tmod_eq_emod_of_nonneg (by omega)]; rfl
set_option maxHeartbeats 0 in
theorem local16_ok {M : List Blk} (hm : Top M) (hsc : scM M.length M = true) (x : Int) (side : Int) (p : PlF) (lim : Int) (riv : Bool) (ra : Option Addr) (rl rc : Nat) {w : Bool} {j0 j1 j2 j3 : Nat} {Be : List Nat} {Wt Tr : List Int} {Sp : List Nat} (S : SeaB M w j0 j1 j2 j3 Be Wt Tr Sp) (sky step : Int) (e : Int)
    {o0 o1 o2 o3 : Nat} {oB : List Nat} {oW oT : List Int} {oS : List Nat} (O : SeaB M w o0 o1 o2 o3 oB oW oT oS) (osky ostep : Int) :
    COk Tryz.prog 3 5 [I x, planV side p lim riv ra rl rc, seaV j0 j1 j2 j3 Be.length Wt.length Tr.length Sp.length sky step, I e, seaV o0 o1 o2 o3 oB.length oW.length oT.length oS.length osky ostep] M (Bo true) M := by
  have l0 := S.read.s0.lt
  have l1 := S.read.s1.lt
  have l2 := S.read.s2.lt
  have l3 := S.read.s3.lt
  have m0 := O.read.s0.lt
  have m1 := O.read.s1.lt
  have m2 := O.read.s2.lt
  have m3 := O.read.s3.lt
  have u0 : Up M (M ++ ([⟨true, .cells [I side, F p.dt, F p.gr, F p.dr, I lim, Bo riv, .raw (.slice ra rl rc)]⟩, ⟨true, .cells [.sl j0 0 Be.length, .sl j1 0 Wt.length, .sl j2 0 Tr.length, .sl j3 0 Sp.length, .int .i64 sky, I step]⟩, ⟨true, .cells [.sl o0 0 oB.length, .sl o1 0 oW.length, .sl o2 0 oT.length, .sl o3 0 oS.length, .int .i64 osky, I ostep]⟩] : List Blk)) := Up.of hsc (by simp [scM, B.sc, scL, V.sc]; omega)
  have hlv := lives16_ok (hm.up u0) u0.sc
  have hlen0 := u0.len
  have hl2 : (M ++ ([⟨true, .cells [I side, F p.dt, F p.gr, F p.dr, I lim, Bo riv, .raw (.slice ra rl rc)]⟩, ⟨true, .cells [.sl j0 0 Be.length, .sl j1 0 Wt.length, .sl j2 0 Tr.length, .sl j3 0 Sp.length, .int .i64 sky, I step]⟩, ⟨true, .cells [.sl o0 0 oB.length, .sl o1 0 oW.length, .sl o2 0 oT.length, .sl o3 0 oS.length, .int .i64 osky, I ostep]⟩] : List Blk)).length = M.length + 3 := by simp
  by_cases h : ∃ n : Nat, x = n ∧ 1 ≤ n ∧ n ≤ 32 ∧ Fit n Be.length Wt.length Tr.length Sp.length
  · obtain ⟨n, rfl, hn, hn', hf⟩ := h
    obtain ⟨b, M1, hnet, hN, u1⟩ := net16_yes (j0 := j0) (j1 := j1) (j2 := j2) (j3 := j3) (hm.up u0) u0.sc hn hn' (by omega) (by omega) (by omega) (by omega) sky step hf
    have hlong := fun m => long16_ok (M := m) (j0 := o0) (j1 := o1) (j2 := o2) (j3 := o3) osky ostep oB.length oW.length oT.length oS.length
    have hP : ∀ y, getB (M1 ++ y) M.length = ⟨true, .cells [I side, F p.dt, F p.gr, F p.dr, I lim, Bo riv, .raw (.slice ra rl rc)]⟩ := fun y => by
      obtain ⟨z, rfl⟩ := u1.ex
      exact getB_in (getB_in getB_app0 rfl) rfl
    have hS : ∀ y, getB (M1 ++ y) (M.length + 1) = ⟨true, .cells [.sl j0 0 Be.length, .sl j1 0 Wt.length, .sl j2 0 Tr.length, .sl j3 0 Sp.length, .int .i64 sky, I step]⟩ := fun y => by
      obtain ⟨z, rfl⟩ := u1.ex
      exact getB_in (getB_in (getB_app 1) rfl) rfl
    have hO : ∀ y, getB (M1 ++ y) (M.length + 2) = ⟨true, .cells [.sl o0 0 oB.length, .sl o1 0 oW.length, .sl o2 0 oT.length, .sl o3 0 oS.length, .int .i64 osky, I ostep]⟩ := fun y => by
      obtain ⟨z, rfl⟩ := u1.ex
      exact getB_in (getB_in (getB_app 2) rfl) rfl
    have hP0 := hP []
    have hS0 := hS []
    have hO0 := hO []
    rw [List.append_nil] at hP0 hS0 hO0
    by_cases hlg : longS oB.length oW.length oT.length oS.length = true
    · rw [hlg] at hlong
      refine COk_quiet Tryz.f5 Tryz.func5 (by kernel_rfl) rfl ?_
      (conv => whnf); repeat (first | (refine ⟨_, _, hlv, ?_⟩; conv => whnf) | (refine ⟨_, hlv, ?_⟩; conv => whnf) | (refine ⟨_, _, hnet, ?_⟩; conv => whnf) | (refine ⟨_, hnet, ?_⟩; conv => whnf) | (rw [hO0]; conv => whnf) | (refine ⟨_, _, hlong _, ?_⟩; conv => whnf) | (refine ⟨_, hlong _, ?_⟩; conv => whnf) | (refine br_d (by omega) ?_; conv => whnf) | (refine br_nd (by omega) ?_; conv => whnf) | (refine br_eq (by omega) ?_; conv => whnf) | (refine br_neq (by omega) ?_; conv => whnf) | (refine br_ne (by omega) ?_; conv => whnf) | (refine br_no (bo_eqn (by omega)) ?_; conv => whnf) | (refine Or.inl ?_; conv => whnf) | (refine okS_no (by kernel_rfl) ?_; conv => whnf) | (refine okS_yes (by kernel_rfl) ?_; conv => whnf) | (refine And_of (by (conv => whnf); (rw [getB_app0]); (conv => whnf)) ?_; conv => whnf) | (refine setB_app ?_; conv => whnf) | (refine setB_app0 ?_; conv => whnf) | (rw [getB_app]; conv => whnf) | (rw [getB_app0]; conv => whnf) | (refine addB_f13 ?_; conv => whnf) | (refine addB_f12 ?_; conv => whnf) | (refine addB_f11 ?_; conv => whnf) | (refine addB_f10 ?_; conv => whnf) | (refine addB_f9 ?_; conv => whnf) | (refine addB_f8 ?_; conv => whnf) | (refine addB_f7 ?_; conv => whnf) | (refine addB_f6 ?_; conv => whnf) | (refine addB_f5 ?_; conv => whnf) | (refine addB_f4 ?_; conv => whnf) | (refine addB_f3 ?_; conv => whnf) | (refine addB_f2 ?_; conv => whnf) | (refine addB_f1 ?_; conv => whnf) | (refine addB_f0 ?_; conv => whnf))
      exact ⟨rfl, (u0.trans u1).ex⟩
    rw [show longS oB.length oW.length oT.length oS.length = false by simpa using hlg] at hlong
    have hlg : ¬ (oB.length > 65536 ∨ oW.length > 65536 ∨ oT.length > 65536 ∨ oS.length > 65536) := by simpa [longS] using hlg
    have S0 := S.up (u0.trans u1)
    have S1 := S0.read
    have hlen := u1.len
    have hb := hN.lt
    have hsp := hf.d
    have hel := edges_len hn
    have hsq : n * n ≤ 1024 := Nat.mul_le_mul hn' hn'
    have q0 := hf.a
    have q1 := hf.b
    have q2 := hf.c
    by_cases he : 0 ≤ e ∧ e < (edges n).length
    case neg =>
      have uE : Up M1 (M1 ++ ([⟨true, .cells [I 0, I 0, I 0, I 0]⟩] : List Blk)) := Up.of u1.sc rfl
      obtain ⟨M2, hsps, u2, hout⟩ := Speeds_ok uE.sc (hN.up uE) (S0.up uE).read sky step hf hn hn' side p lim riv ra rl rc
      refine COk_quiet Tryz.f5 Tryz.func5 (by kernel_rfl) rfl ?_
      (conv => whnf); repeat (first | (refine ⟨_, _, hlv, ?_⟩; conv => whnf) | (refine ⟨_, hlv, ?_⟩; conv => whnf) | (refine ⟨_, _, hnet, ?_⟩; conv => whnf) | (refine ⟨_, hnet, ?_⟩; conv => whnf) | (rw [hO0]; conv => whnf) | (refine ⟨_, _, hlong _, ?_⟩; conv => whnf) | (refine ⟨_, hlong _, ?_⟩; conv => whnf) | (refine ⟨_, _, edge_no hN e he, ?_⟩; conv => whnf) | (refine ⟨_, edge_no hN e he, ?_⟩; conv => whnf) | (rw [hP]; conv => whnf) | (rw [hS]; conv => whnf) | (refine ⟨_, _, hsps, ?_⟩; conv => whnf) | (refine ⟨_, hsps, ?_⟩; conv => whnf) | (refine br_d (by omega) ?_; conv => whnf) | (refine br_nd (by omega) ?_; conv => whnf) | (refine br_eq (by omega) ?_; conv => whnf) | (refine br_neq (by omega) ?_; conv => whnf) | (refine br_ne (by omega) ?_; conv => whnf) | (refine br_no (bo_eqn (by omega)) ?_; conv => whnf) | (refine Or.inl ?_; conv => whnf) | (refine okS_no (by kernel_rfl) ?_; conv => whnf) | (refine okS_yes (by kernel_rfl) ?_; conv => whnf) | (refine And_of (by (conv => whnf); (rw [getB_app0]); (conv => whnf)) ?_; conv => whnf) | (refine setB_app ?_; conv => whnf) | (refine setB_app0 ?_; conv => whnf) | (rw [getB_app]; conv => whnf) | (rw [getB_app0]; conv => whnf) | (refine addB_f13 ?_; conv => whnf) | (refine addB_f12 ?_; conv => whnf) | (refine addB_f11 ?_; conv => whnf) | (refine addB_f10 ?_; conv => whnf) | (refine addB_f9 ?_; conv => whnf) | (refine addB_f8 ?_; conv => whnf) | (refine addB_f7 ?_; conv => whnf) | (refine addB_f6 ?_; conv => whnf) | (refine addB_f5 ?_; conv => whnf) | (refine addB_f4 ?_; conv => whnf) | (refine addB_f3 ?_; conv => whnf) | (refine addB_f2 ?_; conv => whnf) | (refine addB_f1 ?_; conv => whnf) | (refine addB_f0 ?_; conv => whnf))
      exact ⟨rfl, (((u0.trans u1).trans uE).trans u2).ex⟩
    obtain ⟨k, rfl⟩ : ∃ k : Nat, e = k := ⟨e.toNat, by omega⟩
    have hk : k < Sp.length := by omega
    have hx := List.getElem?_eq_getElem (l := edges n) (show k < (edges n).length by omega)
    generalize (edges n)[k] = y at hx
    obtain ⟨c1, _, c12, c2, _⟩ := edge_of hn hx
    have uE : Up M1 (M1 ++ ([⟨true, .cells [I y.1, I y.2.1, I y.2.2.1, I y.2.2.2]⟩] : List Blk)) := Up.of u1.sc rfl
    obtain ⟨M2, hsps, u2, hout⟩ := Speeds_ok uE.sc (hN.up uE) (S0.up uE).read sky step hf hn hn' side p lim riv ra rl rc
    have eL : (M1 ++ ([⟨true, .cells [I y.1, I y.2.1, I y.2.2.1, I y.2.2.2]⟩] : List Blk)).length = M1.length + 1 := by simp
    have hlen2 := u2.len
    rw [eL] at hout hlen2
    have hsps : COk Tryz.prog 3 25 [.ptr (b + 1) 0, planV side p lim riv ra rl rc, seaV j0 j1 j2 j3 Be.length Wt.length Tr.length Sp.length sky step] (M1 ++ ([⟨true, .cells [I y.1, I y.2.1, I y.2.2.1, I y.2.2.2]⟩] : List Blk)) (.tup [.sl (M1.length + 3) 0 Sp.length, I 0]) M2 := by rw [eL] at hsps; exact hsps
    have uu := uE.trans u2
    have hN2 := hN.up uu
    have T0 := S0.up uu
    have S2 := T0.read
    have O2 := (O.up ((u0.trans u1).trans uu)).read
    have gP : ∀ z, getB (M2 ++ z) M.length = ⟨true, .cells [I side, F p.dt, F p.gr, F p.dr, I lim, Bo riv, .raw (.slice ra rl rc)]⟩ := fun z => by
      obtain ⟨v, rfl⟩ := uu.ex
      rw [List.append_assoc]; exact hP _
    have gS : ∀ z, getB (M2 ++ z) (M.length + 1) = ⟨true, .cells [.sl j0 0 Be.length, .sl j1 0 Wt.length, .sl j2 0 Tr.length, .sl j3 0 Sp.length, .int .i64 sky, I step]⟩ := fun z => by
      obtain ⟨v, rfl⟩ := uu.ex
      rw [List.append_assoc]; exact hS _
    have gO : ∀ z, getB (M2 ++ z) (M.length + 2) = ⟨true, .cells [.sl o0 0 oB.length, .sl o1 0 oW.length, .sl o2 0 oT.length, .sl o3 0 oS.length, .int .i64 osky, I ostep]⟩ := fun z => by
      obtain ⟨v, rfl⟩ := uu.ex
      rw [List.append_assoc]; exact hO _
    have gE : ∀ z, getB (M2 ++ z) M1.length = ⟨true, .cells [I y.1, I y.2.1, I y.2.2.1, I y.2.2.2]⟩ := fun z => by
      obtain ⟨v, rfl⟩ := u2.ex
      exact getB_in (getB_in getB_app0 rfl) rfl
    have gP0 := gP []
    have gS0 := gS []
    have gO0 := gO []
    have gE0 := gE []
    rw [List.append_nil] at gP0 gS0 gO0 gE0
    have hout0 : SlF M2 (M1.length + 3) 0 (tab Sp.length (speedT n p Be Wt Sp)) := SlF.tab hout (fun i hi => speedT_in _ _ _ _ _ _) (by omega)
    have hlo := hout0.lt
    have hU : (tab Sp.length (speedT n p Be Wt Sp)).getD k 0 = speedE n p Be Wt Sp k y := by rw [tab_get hk, speedT_at hx]
    have hat0 := fun (off : Nat) (K : V → Prop) (e : off = 0 + k * 1) => SlF.at hout0 (i := k) (off := off) (K := K) (by rw [tab_len]; exact hk) e
    rw [hU] at hat0
    have hat : ∀ {off : Nat} {K : V → Prop}, off = 0 + k * 1 → K (F (speedE n p Be Wt Sp k y)) → rd1 (getB M2 (M1.length + 3)).b off K := fun {off K} e h => hat0 off K e h
    have hsp1 := Speed_ok (N := hN2) (S := S2) sky step hf side p lim riv ra rl rc hn hx
    have hsame : ∀ m, COk Tryz.prog 3 19 [F (speedE n p Be Wt Sp k y), F (speedE n p Be Wt Sp k y)] m (Bo true) m := fun m => by have := same_ok (speedE n p Be Wt Sp k y) (speedE n p Be Wt Sp k y) m; rwa [decide_eq_true rfl] at this
    by_cases hz1 : oB.length = 0
    · refine COk_quiet Tryz.f5 Tryz.func5 (by kernel_rfl) rfl ?_
      (conv => whnf); repeat (first | (refine ⟨_, _, hlv, ?_⟩; conv => whnf) | (refine ⟨_, hlv, ?_⟩; conv => whnf) | (refine ⟨_, _, hnet, ?_⟩; conv => whnf) | (refine ⟨_, hnet, ?_⟩; conv => whnf) | (rw [hO0]; conv => whnf) | (refine ⟨_, _, hlong _, ?_⟩; conv => whnf) | (refine ⟨_, hlong _, ?_⟩; conv => whnf) | (refine ⟨_, _, edge_ok hN k y hx, ?_⟩; conv => whnf) | (refine ⟨_, edge_ok hN k y hx, ?_⟩; conv => whnf) | (rw [hP]; conv => whnf) | (rw [hS]; conv => whnf) | (refine ⟨_, _, hsps, ?_⟩; conv => whnf) | (refine ⟨_, hsps, ?_⟩; conv => whnf) | (rw [gP0]; conv => whnf) | (rw [gS0]; conv => whnf) | (rw [gO0]; conv => whnf) | (refine ⟨_, _, hsp1, ?_⟩; conv => whnf) | (refine ⟨_, hsp1, ?_⟩; conv => whnf) | (refine hat rfl ?_; conv => whnf) | (refine ⟨_, _, hsame _, ?_⟩; conv => whnf) | (refine ⟨_, hsame _, ?_⟩; conv => whnf) | (refine br_d (by omega) ?_; conv => whnf) | (refine br_nd (by omega) ?_; conv => whnf) | (refine br_eq (by omega) ?_; conv => whnf) | (refine br_neq (by omega) ?_; conv => whnf) | (refine br_ne (by omega) ?_; conv => whnf) | (refine br_no (bo_eqn (by omega)) ?_; conv => whnf) | (refine Or.inl ?_; conv => whnf) | (refine okS_no (by kernel_rfl) ?_; conv => whnf) | (refine okS_yes (by kernel_rfl) ?_; conv => whnf) | (refine And_of (by (conv => whnf); (rw [getB_app0]); (conv => whnf)) ?_; conv => whnf) | (refine setB_app ?_; conv => whnf) | (refine setB_app0 ?_; conv => whnf) | (rw [getB_app]; conv => whnf) | (rw [getB_app0]; conv => whnf) | (refine addB_f13 ?_; conv => whnf) | (refine addB_f12 ?_; conv => whnf) | (refine addB_f11 ?_; conv => whnf) | (refine addB_f10 ?_; conv => whnf) | (refine addB_f9 ?_; conv => whnf) | (refine addB_f8 ?_; conv => whnf) | (refine addB_f7 ?_; conv => whnf) | (refine addB_f6 ?_; conv => whnf) | (refine addB_f5 ?_; conv => whnf) | (refine addB_f4 ?_; conv => whnf) | (refine addB_f3 ?_; conv => whnf) | (refine addB_f2 ?_; conv => whnf) | (refine addB_f1 ?_; conv => whnf) | (refine addB_f0 ?_; conv => whnf))
      exact ⟨rfl, (((u0.trans u1).trans uu)).ex⟩
    by_cases hz2 : oW.length = 0
    · refine COk_quiet Tryz.f5 Tryz.func5 (by kernel_rfl) rfl ?_
      (conv => whnf); repeat (first | (refine ⟨_, _, hlv, ?_⟩; conv => whnf) | (refine ⟨_, hlv, ?_⟩; conv => whnf) | (refine ⟨_, _, hnet, ?_⟩; conv => whnf) | (refine ⟨_, hnet, ?_⟩; conv => whnf) | (rw [hO0]; conv => whnf) | (refine ⟨_, _, hlong _, ?_⟩; conv => whnf) | (refine ⟨_, hlong _, ?_⟩; conv => whnf) | (refine ⟨_, _, edge_ok hN k y hx, ?_⟩; conv => whnf) | (refine ⟨_, edge_ok hN k y hx, ?_⟩; conv => whnf) | (rw [hP]; conv => whnf) | (rw [hS]; conv => whnf) | (refine ⟨_, _, hsps, ?_⟩; conv => whnf) | (refine ⟨_, hsps, ?_⟩; conv => whnf) | (rw [gP0]; conv => whnf) | (rw [gS0]; conv => whnf) | (rw [gO0]; conv => whnf) | (refine ⟨_, _, hsp1, ?_⟩; conv => whnf) | (refine ⟨_, hsp1, ?_⟩; conv => whnf) | (refine hat rfl ?_; conv => whnf) | (refine ⟨_, _, hsame _, ?_⟩; conv => whnf) | (refine ⟨_, hsame _, ?_⟩; conv => whnf) | (refine br_d (by omega) ?_; conv => whnf) | (refine br_nd (by omega) ?_; conv => whnf) | (refine br_eq (by omega) ?_; conv => whnf) | (refine br_neq (by omega) ?_; conv => whnf) | (refine br_ne (by omega) ?_; conv => whnf) | (refine br_no (bo_eqn (by omega)) ?_; conv => whnf) | (refine Or.inl ?_; conv => whnf) | (refine okS_no (by kernel_rfl) ?_; conv => whnf) | (refine okS_yes (by kernel_rfl) ?_; conv => whnf) | (refine And_of (by (conv => whnf); (rw [getB_app0]); (conv => whnf)) ?_; conv => whnf) | (refine setB_app ?_; conv => whnf) | (refine setB_app0 ?_; conv => whnf) | (rw [getB_app]; conv => whnf) | (rw [getB_app0]; conv => whnf) | (refine addB_f13 ?_; conv => whnf) | (refine addB_f12 ?_; conv => whnf) | (refine addB_f11 ?_; conv => whnf) | (refine addB_f10 ?_; conv => whnf) | (refine addB_f9 ?_; conv => whnf) | (refine addB_f8 ?_; conv => whnf) | (refine addB_f7 ?_; conv => whnf) | (refine addB_f6 ?_; conv => whnf) | (refine addB_f5 ?_; conv => whnf) | (refine addB_f4 ?_; conv => whnf) | (refine addB_f3 ?_; conv => whnf) | (refine addB_f2 ?_; conv => whnf) | (refine addB_f1 ?_; conv => whnf) | (refine addB_f0 ?_; conv => whnf))
      exact ⟨rfl, (((u0.trans u1).trans uu)).ex⟩
    by_cases hz3 : oS.length = 0
    · refine COk_quiet Tryz.f5 Tryz.func5 (by kernel_rfl) rfl ?_
      (conv => whnf); repeat (first | (refine ⟨_, _, hlv, ?_⟩; conv => whnf) | (refine ⟨_, hlv, ?_⟩; conv => whnf) | (refine ⟨_, _, hnet, ?_⟩; conv => whnf) | (refine ⟨_, hnet, ?_⟩; conv => whnf) | (rw [hO0]; conv => whnf) | (refine ⟨_, _, hlong _, ?_⟩; conv => whnf) | (refine ⟨_, hlong _, ?_⟩; conv => whnf) | (refine ⟨_, _, edge_ok hN k y hx, ?_⟩; conv => whnf) | (refine ⟨_, edge_ok hN k y hx, ?_⟩; conv => whnf) | (rw [hP]; conv => whnf) | (rw [hS]; conv => whnf) | (refine ⟨_, _, hsps, ?_⟩; conv => whnf) | (refine ⟨_, hsps, ?_⟩; conv => whnf) | (rw [gP0]; conv => whnf) | (rw [gS0]; conv => whnf) | (rw [gO0]; conv => whnf) | (refine ⟨_, _, hsp1, ?_⟩; conv => whnf) | (refine ⟨_, hsp1, ?_⟩; conv => whnf) | (refine hat rfl ?_; conv => whnf) | (refine ⟨_, _, hsame _, ?_⟩; conv => whnf) | (refine ⟨_, hsame _, ?_⟩; conv => whnf) | (refine br_d (by omega) ?_; conv => whnf) | (refine br_nd (by omega) ?_; conv => whnf) | (refine br_eq (by omega) ?_; conv => whnf) | (refine br_neq (by omega) ?_; conv => whnf) | (refine br_ne (by omega) ?_; conv => whnf) | (refine br_no (bo_eqn (by omega)) ?_; conv => whnf) | (refine Or.inl ?_; conv => whnf) | (refine okS_no (by kernel_rfl) ?_; conv => whnf) | (refine okS_yes (by kernel_rfl) ?_; conv => whnf) | (refine And_of (by (conv => whnf); (rw [getB_app0]); (conv => whnf)) ?_; conv => whnf) | (refine setB_app ?_; conv => whnf) | (refine setB_app0 ?_; conv => whnf) | (rw [getB_app]; conv => whnf) | (rw [getB_app0]; conv => whnf) | (refine addB_f13 ?_; conv => whnf) | (refine addB_f12 ?_; conv => whnf) | (refine addB_f11 ?_; conv => whnf) | (refine addB_f10 ?_; conv => whnf) | (refine addB_f9 ?_; conv => whnf) | (refine addB_f8 ?_; conv => whnf) | (refine addB_f7 ?_; conv => whnf) | (refine addB_f6 ?_; conv => whnf) | (refine addB_f5 ?_; conv => whnf) | (refine addB_f4 ?_; conv => whnf) | (refine addB_f3 ?_; conv => whnf) | (refine addB_f2 ?_; conv => whnf) | (refine addB_f1 ?_; conv => whnf) | (refine addB_f0 ?_; conv => whnf))
      exact ⟨rfl, (((u0.trans u1).trans uu)).ex⟩
    have hcop := copied16_ok u2.sc T0 (by omega) (by omega) (by omega) (by omega) sky step
    have hcop : COk Tryz.prog 3 22 [seaV j0 j1 j2 j3 Be.length Wt.length Tr.length Sp.length sky step] M2 (.agg [.sk (M2.length + 3) 0 Be.length (Be.length + 9), .sk (M2.length + 7) 0 Wt.length (Wt.length + 9), .sk (M2.length + 9) 0 Tr.length (Tr.length + 9), .sk (M2.length + 5) 0 Sp.length (Sp.length + 9), .int .i64 sky, I step])
        (M2 ++ (cpL M2.length j0 j1 j2 j3 Be.length Wt.length Tr.length Sp.length sky step Be Wt Tr Sp)) := hcop
    have hscm : ∀ (B' : List Nat) (W' T' : List Int) (Z' : List Nat), scM (M2 ++ (cpL M2.length j0 j1 j2 j3 Be.length Wt.length Tr.length Sp.length sky step B' W' T' Z' ++ ([⟨true, .cells [.sk (M2.length + 3) 0 Be.length (Be.length + 9), .sk (M2.length + 7) 0 Wt.length (Wt.length + 9), .sk (M2.length + 9) 0 Tr.length (Tr.length + 9), .sk (M2.length + 5) 0 Sp.length (Sp.length + 9), .int .i64 sky, I step]⟩] : List Blk))).length (M2 ++ (cpL M2.length j0 j1 j2 j3 Be.length Wt.length Tr.length Sp.length sky step B' W' T' Z' ++ ([⟨true, .cells [.sk (M2.length + 3) 0 Be.length (Be.length + 9), .sk (M2.length + 7) 0 Wt.length (Wt.length + 9), .sk (M2.length + 9) 0 Tr.length (Tr.length + 9), .sk (M2.length + 5) 0 Sp.length (Sp.length + 9), .int .i64 sky, I step]⟩] : List Blk))) = true := fun B' W' T' Z' => scM_app (scM_mono (by simp) _ u2.sc) (by simp [scM, B.sc, scL, V.sc]; omega)
    generalize hPP : (fun i => decide (i ≠ y.1 ∧ i ≠ y.2.2.1)) = PP
    have hPL : PP y.1 = false := by rw [← hPP]; simp
    have hPR : PP y.2.2.1 = false := by rw [← hPP]; simp
    have hPt : ∀ i, i ≠ y.1 → i ≠ y.2.2.1 → PP i = true := fun i h1 h2 => by rw [← hPP]; simp [h1, h2]
    refine COk_quiet Tryz.f5 Tryz.func5 (by kernel_rfl) rfl ?_
    (conv => whnf); repeat (first | (refine ⟨_, _, hlv, ?_⟩; conv => whnf) | (refine ⟨_, hlv, ?_⟩; conv => whnf) | (refine ⟨_, _, hnet, ?_⟩; conv => whnf) | (refine ⟨_, hnet, ?_⟩; conv => whnf) | (rw [hO0]; conv => whnf) | (refine ⟨_, _, hlong _, ?_⟩; conv => whnf) | (refine ⟨_, hlong _, ?_⟩; conv => whnf) | (refine ⟨_, _, edge_ok hN k y hx, ?_⟩; conv => whnf) | (refine ⟨_, edge_ok hN k y hx, ?_⟩; conv => whnf) | (rw [hP]; conv => whnf) | (rw [hS]; conv => whnf) | (refine ⟨_, _, hsps, ?_⟩; conv => whnf) | (refine ⟨_, hsps, ?_⟩; conv => whnf) | (rw [gP0]; conv => whnf) | (rw [gS0]; conv => whnf) | (rw [gO0]; conv => whnf) | (refine ⟨_, _, hsp1, ?_⟩; conv => whnf) | (refine ⟨_, hsp1, ?_⟩; conv => whnf) | (refine hat rfl ?_; conv => whnf) | (refine ⟨_, _, hsame _, ?_⟩; conv => whnf) | (refine ⟨_, hsame _, ?_⟩; conv => whnf) | (refine ⟨_, _, hcop, ?_⟩; conv => whnf) | (refine ⟨_, hcop, ?_⟩; conv => whnf) | (refine br_d (by omega) ?_; conv => whnf) | (refine br_nd (by omega) ?_; conv => whnf) | (refine br_eq (by omega) ?_; conv => whnf) | (refine br_neq (by omega) ?_; conv => whnf) | (refine br_ne (by omega) ?_; conv => whnf) | (refine br_no (bo_eqn (by omega)) ?_; conv => whnf) | (refine Or.inl ?_; conv => whnf) | (refine okS_no (by kernel_rfl) ?_; conv => whnf) | (refine okS_yes (by kernel_rfl) ?_; conv => whnf) | (refine And_of (by (conv => whnf); (rw [getB_app0]); (conv => whnf)) ?_; conv => whnf) | (refine setB_app ?_; conv => whnf) | (refine setB_app0 ?_; conv => whnf) | (rw [getB_app]; conv => whnf) | (rw [getB_app0]; conv => whnf) | (refine addB_f13 ?_; conv => whnf) | (refine addB_f12 ?_; conv => whnf) | (refine addB_f11 ?_; conv => whnf) | (refine addB_f10 ?_; conv => whnf) | (refine addB_f9 ?_; conv => whnf) | (refine addB_f8 ?_; conv => whnf) | (refine addB_f7 ?_; conv => whnf) | (refine addB_f6 ?_; conv => whnf) | (refine addB_f5 ?_; conv => whnf) | (refine addB_f4 ?_; conv => whnf) | (refine addB_f3 ?_; conv => whnf) | (refine addB_f2 ?_; conv => whnf) | (refine addB_f1 ?_; conv => whnf) | (refine addB_f0 ?_; conv => whnf))
    refine loop_to (fun c => [.any, .any, .any, I k, .any, .any, .ptr M.length 0, .any, .any, .ptr (M.length + 2) 0, .any, .ptr (b + 1) 0, .ptr M1.length 0, .any, .any, .any, F (speedE n p Be Wt Sp k y), .ptr (M2.length + 11) 0, I c, .any, .any, .any, .any, .any, .any, .any, .any, .any, .any, .any, .any, .any, .any, .any, .any, .any, .any, .any, .any, .any, .any, .any, .any, .any, .any, .any, .any, .any, .any, .any, .any, .any, .any, .any, .any, .any, .any, .any, .any, .any, .any, .any, .any, .any, .any, .any, .any, .any, .any, .any, .any, .any, .any, .any, .any, .any, .any, .any, .any, .any, .any, .any, .any, .any, .any, .any, .any, .any, .any, .any, .any, .any, .any, .any, .any, .any, .any, .any, .any, .any, .any, .any, .any, .any, .any, .any, .any, .any, .any, .any, .any, .any, .any, .any, .any, .any, .any, .any, .any, .any, .any, .any, .any, .any, .any, .any, .any, .any, .any, .any, .any, .any, .any, .any, .any, .any, .any, .any, .any, .any, .any, .any, .any, .any, .any, .any, .any, .any, .any, .any, .any, .any, .any, .any, .any, .any, .any, .any, .any, .any, .any, .any, .any, .any, .any, .any, .any, .any, .any, .any, .any, .any, .any]) (fun c => M2 ++ (cpL M2.length j0 j1 j2 j3 Be.length Wt.length Tr.length Sp.length sky step (updT 0 Be PP (fun i => oB.getD (i % oB.length) 0) c) (updT 0 Wt PP (fun i => oW.getD (i % oW.length) 0) c) (updT 0 Tr (fun _ => true) (fun _ => 5) c) Sp ++ ([⟨true, .cells [.sk (M2.length + 3) 0 Be.length (Be.length + 9), .sk (M2.length + 7) 0 Wt.length (Wt.length + 9), .sk (M2.length + 9) 0 Tr.length (Tr.length + 9), .sk (M2.length + 5) 0 Sp.length (Sp.length + 9), .int .i64 sky, I step]⟩] : List Blk))) 0 Be.length (Nat.zero_le _) ?_ ?_ ?_
    · refine Fg.of [] ?_ (by rw [List.append_nil, upd_0, upd_0, upd_0]; rfl) (by simp) (by (simp [scL, V.sc]) <;> omega) (hscm _ _ _ _)
      conv => whnf
      exact ⟨rfl, rfl, rfl, rfl, rfl, rfl, rfl, rfl, rfl⟩
    · intro c _ hc
      have eT : (cpI (updT 0 Tr (fun _ => true) (fun _ => 5) c)).set (0 + c * 1) 5 = cpI (updT 0 Tr (fun _ => true) (fun _ => 5) (c + 1)) := (cpI_set (by rw [upd_len]; omega)).trans (congrArg cpI (upd_set (G := fun _ => (5 : Int)) rfl))
      by_cases hcL : c = y.1
      · have eB : updT 0 Be PP (fun i => oB.getD (i % oB.length) 0) c = updT 0 Be PP (fun i => oB.getD (i % oB.length) 0) (c + 1) := upd_skip (by rw [hcL]; exact hPL)
        have eW : updT 0 Wt PP (fun i => oW.getD (i % oW.length) 0) c = updT 0 Wt PP (fun i => oW.getD (i % oW.length) 0) (c + 1) := upd_skip (by rw [hcL]; exact hPL)
        (conv => whnf); repeat (first | (rw [gO]; conv => whnf) | (rw [gE]; conv => whnf) | (refine br_yes (cpI_blt (by (rw [upd_len]); omega)) ?_; conv => whnf) | (refine put_at (blkI eT) ?_; conv => whnf) | (refine br_d (by omega) ?_; conv => whnf) | (refine br_nd (by omega) ?_; conv => whnf) | (refine br_eq (by omega) ?_; conv => whnf) | (refine br_neq (by omega) ?_; conv => whnf) | (refine br_ne (by omega) ?_; conv => whnf) | (refine br_no (bo_eqn (by omega)) ?_; conv => whnf) | (refine Or.inl ?_; conv => whnf) | (refine okS_no (by kernel_rfl) ?_; conv => whnf) | (refine okS_yes (by kernel_rfl) ?_; conv => whnf) | (refine And_of (by (conv => whnf); (rw [getB_app0]); (conv => whnf)) ?_; conv => whnf) | (refine setB_app ?_; conv => whnf) | (refine setB_app0 ?_; conv => whnf) | (rw [getB_app]; conv => whnf) | (rw [getB_app0]; conv => whnf) | (refine addB_f13 ?_; conv => whnf) | (refine addB_f12 ?_; conv => whnf) | (refine addB_f11 ?_; conv => whnf) | (refine addB_f10 ?_; conv => whnf) | (refine addB_f9 ?_; conv => whnf) | (refine addB_f8 ?_; conv => whnf) | (refine addB_f7 ?_; conv => whnf) | (refine addB_f6 ?_; conv => whnf) | (refine addB_f5 ?_; conv => whnf) | (refine addB_f4 ?_; conv => whnf) | (refine addB_f3 ?_; conv => whnf) | (refine addB_f2 ?_; conv => whnf) | (refine addB_f1 ?_; conv => whnf) | (refine addB_f0 ?_; conv => whnf))
        refine Fg.of [] ?_ (by rw [List.append_nil, ← eB, ← eW]; rfl) (by simp) (by (simp [scL, V.sc]) <;> omega) (hscm _ _ _ _)
        conv => whnf
        exact ⟨rfl, rfl, rfl, rfl, rfl, rfl, rfl, wrapKL (by omega), rfl⟩
      by_cases hcR : c = y.2.2.1
      · have eB : updT 0 Be PP (fun i => oB.getD (i % oB.length) 0) c = updT 0 Be PP (fun i => oB.getD (i % oB.length) 0) (c + 1) := upd_skip (by rw [hcR]; exact hPR)
        have eW : updT 0 Wt PP (fun i => oW.getD (i % oW.length) 0) c = updT 0 Wt PP (fun i => oW.getD (i % oW.length) 0) (c + 1) := upd_skip (by rw [hcR]; exact hPR)
        (conv => whnf); repeat (first | (rw [gO]; conv => whnf) | (rw [gE]; conv => whnf) | (refine br_yes (cpI_blt (by (rw [upd_len]); omega)) ?_; conv => whnf) | (refine put_at (blkI eT) ?_; conv => whnf) | (refine br_d (by omega) ?_; conv => whnf) | (refine br_nd (by omega) ?_; conv => whnf) | (refine br_eq (by omega) ?_; conv => whnf) | (refine br_neq (by omega) ?_; conv => whnf) | (refine br_ne (by omega) ?_; conv => whnf) | (refine br_no (bo_eqn (by omega)) ?_; conv => whnf) | (refine Or.inl ?_; conv => whnf) | (refine okS_no (by kernel_rfl) ?_; conv => whnf) | (refine okS_yes (by kernel_rfl) ?_; conv => whnf) | (refine And_of (by (conv => whnf); (rw [getB_app0]); (conv => whnf)) ?_; conv => whnf) | (refine setB_app ?_; conv => whnf) | (refine setB_app0 ?_; conv => whnf) | (rw [getB_app]; conv => whnf) | (rw [getB_app0]; conv => whnf) | (refine addB_f13 ?_; conv => whnf) | (refine addB_f12 ?_; conv => whnf) | (refine addB_f11 ?_; conv => whnf) | (refine addB_f10 ?_; conv => whnf) | (refine addB_f9 ?_; conv => whnf) | (refine addB_f8 ?_; conv => whnf) | (refine addB_f7 ?_; conv => whnf) | (refine addB_f6 ?_; conv => whnf) | (refine addB_f5 ?_; conv => whnf) | (refine addB_f4 ?_; conv => whnf) | (refine addB_f3 ?_; conv => whnf) | (refine addB_f2 ?_; conv => whnf) | (refine addB_f1 ?_; conv => whnf) | (refine addB_f0 ?_; conv => whnf))
        refine Fg.of [] ?_ (by rw [List.append_nil, ← eB, ← eW]; rfl) (by simp) (by (simp [scL, V.sc]) <;> omega) (hscm _ _ _ _)
        conv => whnf
        exact ⟨rfl, rfl, rfl, rfl, rfl, rfl, rfl, wrapKL (by omega), rfl⟩
      · have eB : (cpF (updT 0 Be PP (fun i => oB.getD (i % oB.length) 0) c)).set (0 + c * 1) (oB.getD (c % oB.length) 0) = cpF (updT 0 Be PP (fun i => oB.getD (i % oB.length) 0) (c + 1)) := (cpF_set (by rw [upd_len]; omega)).trans (congrArg cpF (upd_set (G := fun i => oB.getD (i % oB.length) 0) (hPt c hcL hcR)))
        have eW : (cpI (updT 0 Wt PP (fun i => oW.getD (i % oW.length) 0) c)).set (0 + c * 1) (oW.getD (c % oW.length) 0) = cpI (updT 0 Wt PP (fun i => oW.getD (i % oW.length) 0) (c + 1)) := (cpI_set (by rw [upd_len]; omega)).trans (congrArg cpI (upd_set (G := fun i => oW.getD (i % oW.length) 0) (hPt c hcL hcR)))
        have mB := Nat.mod_lt c (show 0 < oB.length by omega)
        have mW := Nat.mod_lt c (show 0 < oW.length by omega)
        have rB := rem_nat (c := c) (m := oB.length)
        have rW := rem_nat (c := c) (m := oW.length)
        (conv => whnf); repeat (first | (rw [gO]; conv => whnf) | (rw [gE]; conv => whnf) | (rw [rB]; conv => whnf) | (rw [rW]; conv => whnf) | (refine br_yes (cpI_blt (by (rw [upd_len]); omega)) ?_; conv => whnf) | (refine br_yes (cpF_blt (by (rw [upd_len]); omega)) ?_; conv => whnf) | (refine SlF.at (O2.s0.app _) (i := c % oB.length) mB rfl ?_; conv => whnf) | (refine SlI.at (O2.s1.app _) (i := c % oW.length) mW rfl ?_; conv => whnf) | (refine put_at (blkI eT) ?_; conv => whnf) | (refine put_at (blkF eB) ?_; conv => whnf) | (refine put_at (blkI eW) ?_; conv => whnf) | (refine br_d (by omega) ?_; conv => whnf) | (refine br_nd (by omega) ?_; conv => whnf) | (refine br_eq (by omega) ?_; conv => whnf) | (refine br_neq (by omega) ?_; conv => whnf) | (refine br_ne (by omega) ?_; conv => whnf) | (refine br_no (bo_eqn (by omega)) ?_; conv => whnf) | (refine Or.inl ?_; conv => whnf) | (refine okS_no (by kernel_rfl) ?_; conv => whnf) | (refine okS_yes (by kernel_rfl) ?_; conv => whnf) | (refine And_of (by (conv => whnf); (rw [getB_app0]); (conv => whnf)) ?_; conv => whnf) | (refine setB_app ?_; conv => whnf) | (refine setB_app0 ?_; conv => whnf) | (rw [getB_app]; conv => whnf) | (rw [getB_app0]; conv => whnf) | (refine addB_f13 ?_; conv => whnf) | (refine addB_f12 ?_; conv => whnf) | (refine addB_f11 ?_; conv => whnf) | (refine addB_f10 ?_; conv => whnf) | (refine addB_f9 ?_; conv => whnf) | (refine addB_f8 ?_; conv => whnf) | (refine addB_f7 ?_; conv => whnf) | (refine addB_f6 ?_; conv => whnf) | (refine addB_f5 ?_; conv => whnf) | (refine addB_f4 ?_; conv => whnf) | (refine addB_f3 ?_; conv => whnf) | (refine addB_f2 ?_; conv => whnf) | (refine addB_f1 ?_; conv => whnf) | (refine addB_f0 ?_; conv => whnf))
        refine Fg.of [] ?_ (by rw [List.append_nil]; rfl) (by simp) (by (simp [scL, V.sc]) <;> omega) (hscm _ _ _ _)
        conv => whnf
        exact ⟨rfl, rfl, rfl, rfl, rfl, rfl, rfl, wrapKL (by omega), rfl⟩
    · (conv => whnf); repeat (first | (refine br_d (by omega) ?_; conv => whnf) | (refine br_nd (by omega) ?_; conv => whnf) | (refine br_eq (by omega) ?_; conv => whnf) | (refine br_neq (by omega) ?_; conv => whnf) | (refine br_ne (by omega) ?_; conv => whnf) | (refine br_no (bo_eqn (by omega)) ?_; conv => whnf) | (refine Or.inl ?_; conv => whnf) | (refine okS_no (by kernel_rfl) ?_; conv => whnf) | (refine okS_yes (by kernel_rfl) ?_; conv => whnf) | (refine And_of (by (conv => whnf); (rw [getB_app0]); (conv => whnf)) ?_; conv => whnf) | (refine setB_app ?_; conv => whnf) | (refine setB_app0 ?_; conv => whnf) | (rw [getB_app]; conv => whnf) | (rw [getB_app0]; conv => whnf) | (refine addB_f13 ?_; conv => whnf) | (refine addB_f12 ?_; conv => whnf) | (refine addB_f11 ?_; conv => whnf) | (refine addB_f10 ?_; conv => whnf) | (refine addB_f9 ?_; conv => whnf) | (refine addB_f8 ?_; conv => whnf) | (refine addB_f7 ?_; conv => whnf) | (refine addB_f6 ?_; conv => whnf) | (refine addB_f5 ?_; conv => whnf) | (refine addB_f4 ?_; conv => whnf) | (refine addB_f3 ?_; conv => whnf) | (refine addB_f2 ?_; conv => whnf) | (refine addB_f1 ?_; conv => whnf) | (refine addB_f0 ?_; conv => whnf))
      generalize hBx : updT 0 Be PP (fun i => oB.getD (i % oB.length) 0) Be.length = Bx
      generalize hWx : updT 0 Wt PP (fun i => oW.getD (i % oW.length) 0) Be.length = Wx
      generalize hTx : updT 0 Tr (fun _ => true) (fun _ => (5 : Int)) Be.length = Tx
      generalize hQQ : (fun i => decide (i ≠ k)) = QQ
      have hQk : QQ k = false := by rw [← hQQ]; simp
      have hQt : ∀ i, i ≠ k → QQ i = true := fun i h1 => by rw [← hQQ]; simp [h1]
      refine loop_to (fun c => [.any, .any, .any, I k, .any, .any, .ptr M.length 0, .any, .any, .ptr (M.length + 2) 0, .any, .ptr (b + 1) 0, .any, .any, .any, .any, F (speedE n p Be Wt Sp k y), .ptr (M2.length + 11) 0, .any, I c, .any, .any, .any, .any, .any, .any, .any, .any, .any, .any, .any, .any, .any, .any, .any, .any, .any, .any, .any, .any, .any, .any, .any, .any, .any, .any, .any, .any, .any, .any, .any, .any, .any, .any, .any, .any, .any, .any, .any, .any, .any, .any, .any, .any, .any, .any, .any, .any, .any, .any, .any, .any, .any, .any, .any, .any, .any, .any, .any, .any, .any, .any, .any, .any, .any, .any, .any, .any, .any, .any, .any, .any, .any, .any, .any, .any, .any, .any, .any, .any, .any, .any, .any, .any, .any, .any, .any, .any, .any, .any, .any, .any, .any, .any, .any, .any, .any, .any, .any, .any, .any, .any, .any, .any, .any, .any, .any, .any, .any, .any, .any, .any, .any, .any, .any, .any, .any, .any, .any, .any, .any, .any, .any, .any, .any, .any, .any, .any, .any, .any, .any, .any, .any, .any, .any, .any, .any, .any, .any, .any, .any, .any, .any, .any, .any, .any, .any, .any, .any, .any, .any, .any, .any]) (fun c => M2 ++ (cpL M2.length j0 j1 j2 j3 Be.length Wt.length Tr.length Sp.length sky step Bx Wx Tx (updT 0 Sp QQ (fun i => oS.getD (i % oS.length) 0) c) ++ ([⟨true, .cells [.sk (M2.length + 3) 0 Be.length (Be.length + 9), .sk (M2.length + 7) 0 Wt.length (Wt.length + 9), .sk (M2.length + 9) 0 Tr.length (Tr.length + 9), .sk (M2.length + 5) 0 Sp.length (Sp.length + 9), .int .i64 sky, I step]⟩] : List Blk))) 0 Sp.length (Nat.zero_le _) ?_ ?_ ?_
      · refine Fg.of [] ?_ (by rw [List.append_nil, upd_0]; try rfl) (by simp) (by (simp [scL, V.sc]) <;> omega) (hscm _ _ _ _)
        conv => whnf
        exact ⟨rfl, rfl, rfl, rfl, rfl, rfl, rfl, rfl⟩
      · intro c _ hc
        by_cases hck : c = k
        · have eS : updT 0 Sp QQ (fun i => oS.getD (i % oS.length) 0) c = updT 0 Sp QQ (fun i => oS.getD (i % oS.length) 0) (c + 1) := upd_skip (by rw [hck]; exact hQk)
          (conv => whnf); repeat (first | (rw [gO]; conv => whnf) | (refine br_d (by omega) ?_; conv => whnf) | (refine br_nd (by omega) ?_; conv => whnf) | (refine br_eq (by omega) ?_; conv => whnf) | (refine br_neq (by omega) ?_; conv => whnf) | (refine br_ne (by omega) ?_; conv => whnf) | (refine br_no (bo_eqn (by omega)) ?_; conv => whnf) | (refine Or.inl ?_; conv => whnf) | (refine okS_no (by kernel_rfl) ?_; conv => whnf) | (refine okS_yes (by kernel_rfl) ?_; conv => whnf) | (refine And_of (by (conv => whnf); (rw [getB_app0]); (conv => whnf)) ?_; conv => whnf) | (refine setB_app ?_; conv => whnf) | (refine setB_app0 ?_; conv => whnf) | (rw [getB_app]; conv => whnf) | (rw [getB_app0]; conv => whnf) | (refine addB_f13 ?_; conv => whnf) | (refine addB_f12 ?_; conv => whnf) | (refine addB_f11 ?_; conv => whnf) | (refine addB_f10 ?_; conv => whnf) | (refine addB_f9 ?_; conv => whnf) | (refine addB_f8 ?_; conv => whnf) | (refine addB_f7 ?_; conv => whnf) | (refine addB_f6 ?_; conv => whnf) | (refine addB_f5 ?_; conv => whnf) | (refine addB_f4 ?_; conv => whnf) | (refine addB_f3 ?_; conv => whnf) | (refine addB_f2 ?_; conv => whnf) | (refine addB_f1 ?_; conv => whnf) | (refine addB_f0 ?_; conv => whnf))
          refine Fg.of [] ?_ (by rw [List.append_nil, ← eS]; try rfl) (by simp) (by (simp [scL, V.sc]) <;> omega) (hscm _ _ _ _)
          conv => whnf
          exact ⟨rfl, rfl, rfl, rfl, rfl, rfl, wrapKL (by omega), rfl⟩
        · have eS : (cpF (updT 0 Sp QQ (fun i => oS.getD (i % oS.length) 0) c)).set (0 + c * 1) (oS.getD (c % oS.length) 0) = cpF (updT 0 Sp QQ (fun i => oS.getD (i % oS.length) 0) (c + 1)) := (cpF_set (by rw [upd_len]; omega)).trans (congrArg cpF (upd_set (G := fun i => oS.getD (i % oS.length) 0) (hQt c hck)))
          have mS := Nat.mod_lt c (show 0 < oS.length by omega)
          have rS := rem_nat (c := c) (m := oS.length)
          (conv => whnf); repeat (first | (rw [gO]; conv => whnf) | (rw [rS]; conv => whnf) | (refine br_yes (cpF_blt (by (rw [upd_len]); omega)) ?_; conv => whnf) | (refine SlF.at (O2.s3.app _) (i := c % oS.length) mS rfl ?_; conv => whnf) | (refine put_at (blkF eS) ?_; conv => whnf) | (refine br_d (by omega) ?_; conv => whnf) | (refine br_nd (by omega) ?_; conv => whnf) | (refine br_eq (by omega) ?_; conv => whnf) | (refine br_neq (by omega) ?_; conv => whnf) | (refine br_ne (by omega) ?_; conv => whnf) | (refine br_no (bo_eqn (by omega)) ?_; conv => whnf) | (refine Or.inl ?_; conv => whnf) | (refine okS_no (by kernel_rfl) ?_; conv => whnf) | (refine okS_yes (by kernel_rfl) ?_; conv => whnf) | (refine And_of (by (conv => whnf); (rw [getB_app0]); (conv => whnf)) ?_; conv => whnf) | (refine setB_app ?_; conv => whnf) | (refine setB_app0 ?_; conv => whnf) | (rw [getB_app]; conv => whnf) | (rw [getB_app0]; conv => whnf) | (refine addB_f13 ?_; conv => whnf) | (refine addB_f12 ?_; conv => whnf) | (refine addB_f11 ?_; conv => whnf) | (refine addB_f10 ?_; conv => whnf) | (refine addB_f9 ?_; conv => whnf) | (refine addB_f8 ?_; conv => whnf) | (refine addB_f7 ?_; conv => whnf) | (refine addB_f6 ?_; conv => whnf) | (refine addB_f5 ?_; conv => whnf) | (refine addB_f4 ?_; conv => whnf) | (refine addB_f3 ?_; conv => whnf) | (refine addB_f2 ?_; conv => whnf) | (refine addB_f1 ?_; conv => whnf) | (refine addB_f0 ?_; conv => whnf))
          refine Fg.of [] ?_ (by rw [List.append_nil]; rfl) (by simp) (by (simp [scL, V.sc]) <;> omega) (hscm _ _ _ _)
          conv => whnf
          exact ⟨rfl, rfl, rfl, rfl, rfl, rfl, wrapKL (by omega), rfl⟩
      · generalize hSx : updT 0 Sp QQ (fun i => oS.getD (i % oS.length) 0) Sp.length = Sx
        have lB : Bx.length = Be.length := by rw [← hBx]; exact upd_len _ _ _ _ _
        have lW : Wx.length = Wt.length := by rw [← hWx]; exact upd_len _ _ _ _ _
        have lT : Tx.length = Tr.length := by rw [← hTx]; exact upd_len _ _ _ _ _
        have lS : Sx.length = Sp.length := by rw [← hSx]; exact upd_len _ _ _ _ _
        have hS3 : SeaR (M2 ++ (cpL M2.length j0 j1 j2 j3 Be.length Wt.length Tr.length Sp.length sky step Bx Wx Tx Sx ++ ([⟨true, .cells [.sk (M2.length + 3) 0 Be.length (Be.length + 9), .sk (M2.length + 7) 0 Wt.length (Wt.length + 9), .sk (M2.length + 9) 0 Tr.length (Tr.length + 9), .sk (M2.length + 5) 0 Sp.length (Sp.length + 9), .int .i64 sky, I step]⟩] : List Blk))) (M2.length + 3) (M2.length + 7) (M2.length + 9) (M2.length + 5) Bx Wx Tx Sx :=
          ⟨cop_F (getB_app 3) (by rw [← hBx]; exact upd_wf S1.s0.wf fun i _ => O.f0 _ (Nat.mod_lt i (by omega))) (by omega),
            cop_I (getB_app 7) (by rw [← hWx]; exact upd_wf S1.s1.wf fun i _ => O.f1 _ (Nat.mod_lt i (by omega))) (by omega),
            cop_I (getB_app 9) (by rw [← hTx]; exact upd_wf S1.s2.wf fun i _ => by decide) (by omega),
            cop_F (getB_app 5) (by rw [← hSx]; exact upd_wf S1.s3.wf fun i _ => O.f3 _ (Nat.mod_lt i (by omega))) (by omega)⟩
        have hf3 : Fit n Bx.length Wx.length Tx.length Sx.length := by rw [lB, lW, lT, lS]; exact hf
        have hspT := sk_4 (k0 := Be.length + 9) (k1 := Wt.length + 9) (k2 := Tr.length + 9) (k3 := Sp.length + 9) (Speed_ok (N := hN2.more _) (S := hS3) sky step hf3 side p lim riv ra rl rc hn hx)
        have a1 : lk n Bx Wx y.1 = lk n Be Wt y.1 := by
          unfold lk
          rw [← hBx, ← hWx, upd_at (by omega) hPL, upd_at (by omega) hPL]
        have a2 : lk n Bx Wx y.2.2.1 = lk n Be Wt y.2.2.1 := by
          unfold lk
          rw [← hBx, ← hWx, upd_at (by omega) hPR, upd_at (by omega) hPR]
        have hv : speedE n p Bx Wx Sx k y = speedE n p Be Wt Sp k y := by
          unfold speedE
          rw [a1, a2, ← hSx, upd_at hk hQk]
        rw [hv, lB, lW, lT, lS] at hspT
        (conv => whnf); repeat (first | (rw [gP]; conv => whnf) | (refine ⟨_, _, hspT, ?_⟩; conv => whnf) | (refine ⟨_, hspT, ?_⟩; conv => whnf) | (refine ⟨_, _, hsame _, ?_⟩; conv => whnf) | (refine ⟨_, hsame _, ?_⟩; conv => whnf) | (refine br_d (by omega) ?_; conv => whnf) | (refine br_nd (by omega) ?_; conv => whnf) | (refine br_eq (by omega) ?_; conv => whnf) | (refine br_neq (by omega) ?_; conv => whnf) | (refine br_ne (by omega) ?_; conv => whnf) | (refine br_no (bo_eqn (by omega)) ?_; conv => whnf) | (refine Or.inl ?_; conv => whnf) | (refine okS_no (by kernel_rfl) ?_; conv => whnf) | (refine okS_yes (by kernel_rfl) ?_; conv => whnf) | (refine And_of (by (conv => whnf); (rw [getB_app0]); (conv => whnf)) ?_; conv => whnf) | (refine setB_app ?_; conv => whnf) | (refine setB_app0 ?_; conv => whnf) | (rw [getB_app]; conv => whnf) | (rw [getB_app0]; conv => whnf) | (refine addB_f13 ?_; conv => whnf) | (refine addB_f12 ?_; conv => whnf) | (refine addB_f11 ?_; conv => whnf) | (refine addB_f10 ?_; conv => whnf) | (refine addB_f9 ?_; conv => whnf) | (refine addB_f8 ?_; conv => whnf) | (refine addB_f7 ?_; conv => whnf) | (refine addB_f6 ?_; conv => whnf) | (refine addB_f5 ?_; conv => whnf) | (refine addB_f4 ?_; conv => whnf) | (refine addB_f3 ?_; conv => whnf) | (refine addB_f2 ?_; conv => whnf) | (refine addB_f1 ?_; conv => whnf) | (refine addB_f0 ?_; conv => whnf))
        exact ⟨rfl, (((u0.trans u1).trans uu).app _)⟩
  · have hno := net16_no (hm.up u0) u0.sc x (j0 := j0) (j1 := j1) (j2 := j2) (j3 := j3) (by omega) (by omega) (by omega) (by omega) sky step (fun n h1 h2 h3 h4 => h ⟨n, h1, h2, h3, h4⟩)
    refine COk_quiet Tryz.f5 Tryz.func5 (by kernel_rfl) rfl ?_
    (conv => whnf); repeat (first | (refine ⟨_, _, hlv, ?_⟩; conv => whnf) | (refine ⟨_, hlv, ?_⟩; conv => whnf) | (refine ⟨_, _, hno, ?_⟩; conv => whnf) | (refine ⟨_, hno, ?_⟩; conv => whnf) | (refine br_d (by omega) ?_; conv => whnf) | (refine br_nd (by omega) ?_; conv => whnf) | (refine br_eq (by omega) ?_; conv => whnf) | (refine br_neq (by omega) ?_; conv => whnf) | (refine br_ne (by omega) ?_; conv => whnf) | (refine br_no (bo_eqn (by omega)) ?_; conv => whnf) | (refine Or.inl ?_; conv => whnf) | (refine okS_no (by kernel_rfl) ?_; conv => whnf) | (refine okS_yes (by kernel_rfl) ?_; conv => whnf) | (refine And_of (by (conv => whnf); (rw [getB_app0]); (conv => whnf)) ?_; conv => whnf) | (refine setB_app ?_; conv => whnf) | (refine setB_app0 ?_; conv => whnf) | (rw [getB_app]; conv => whnf) | (rw [getB_app0]; conv => whnf) | (refine addB_f13 ?_; conv => whnf) | (refine addB_f12 ?_; conv => whnf) | (refine addB_f11 ?_; conv => whnf) | (refine addB_f10 ?_; conv => whnf) | (refine addB_f9 ?_; conv => whnf) | (refine addB_f8 ?_; conv => whnf) | (refine addB_f7 ?_; conv => whnf) | (refine addB_f6 ?_; conv => whnf) | (refine addB_f5 ?_; conv => whnf) | (refine addB_f4 ?_; conv => whnf) | (refine addB_f3 ?_; conv => whnf) | (refine addB_f2 ?_; conv => whnf) | (refine addB_f1 ?_; conv => whnf) | (refine addB_f0 ?_; conv => whnf))
    exact ⟨rfl, _, rfl⟩
end Go.Proofs.YtajnkcoanapboaaGreatDoor
