/- The statement FluxEdges: its contract. No condition. -/
import Derived.Test.YtemaeembndobaaaGreatDoorLi13
import Derived.Test.YtemaeembndobaaaGreatDoorCw13
import Derived.Test.YtemaeembndobaaaGreatDoorUd
import Derived.Test.YtemaeembndobaaaGreatDoorQf
namespace Go.Proofs.YtemaeembndobaaaGreatDoor
open Go Go.Eng
set_option maxRecDepth 100000
set_option linter.unusedSimpArgs false
set_option linter.unusedVariables false

theorem clamp_in (o : Option Nat) (h : ∀ b, o = some b → b < 18446744073709551616) : in64 (clampF o) := by
  have q : q52 = 4503599627370496 := rfl
  cases o with
  | none => exact ⟨by decide, by decide⟩
  | some b =>
    rcases nan_or (h b rfl) with hn | ⟨s, R, hR, rfl⟩
    · have e : clampF (some b) = 0 := by
        unfold clampF
        simp only
        rw [if_pos]
        unfold fne
        rw [(nan_cmp hn _).1]; rfl
      rw [e]; exact ⟨by decide, by decide⟩
    · rw [clamp_wd s hR]
      have := size_le hR
      cases s
      · exact ⟨by simp; omega, by simp; omega⟩
      · exact ⟨by simp; omega, by simp; omega⟩
theorem quant_in (u d l t : Nat) : in64 (quantF u d l t) := clamp_in _ fun b h => fmul_lt h
theorem fluxT_in (n : Nat) (lim : Int) (dt : Nat) (Be : List Nat) (Wt : List Int) (Sp : List Nat) (e : Nat) : in64 (fluxT n lim dt Be Wt Sp e) := by
  unfold fluxT
  split
  · exact quant_in _ _ _ _
  · exact ⟨by decide, by decide⟩
section
variable {M : List Blk} {b n : Nat} (N : Net M b n) {j0 j1 j2 j3 : Nat} (sky step : Int) (hsc : scM M.length M = true)
include N
theorem behind_no (e : Int) (he : ¬ (0 ≤ e ∧ e < (edges n).length)) : COk Tryz.prog 3 18 [.ptr (b + 1) 0, I e] M (.tup [I 0, I 0, Bo false]) M := by
  have h := is_ok N e
  rw [decide_eq_false he] at h
  refine COk_quiet Tryz.f18 Tryz.func18 (by kernel_rfl) rfl ?_
  (conv => whnf); repeat (first | (refine ⟨_, _, h, ?_⟩; conv => whnf) | (refine ⟨_, h, ?_⟩; conv => whnf) | (refine br_d (by omega) ?_; conv => whnf) | (refine br_nd (by omega) ?_; conv => whnf) | (refine br_eq (by omega) ?_; conv => whnf) | (refine br_neq (by omega) ?_; conv => whnf) | (refine br_ne (by omega) ?_; conv => whnf) | (refine br_no (bo_eqn (by omega)) ?_; conv => whnf) | (refine Or.inl ?_; conv => whnf) | (refine okS_no (by kernel_rfl) ?_; conv => whnf) | (refine okS_yes (by kernel_rfl) ?_; conv => whnf) | (refine And_of (by (conv => whnf); (rw [getB_app0]); (conv => whnf)) ?_; conv => whnf) | (refine setB_app ?_; conv => whnf) | (refine setB_app0 ?_; conv => whnf) | (rw [getB_app]; conv => whnf) | (rw [getB_app0]; conv => whnf) | (refine addB_f13 ?_; conv => whnf) | (refine addB_f12 ?_; conv => whnf) | (refine addB_f11 ?_; conv => whnf) | (refine addB_f10 ?_; conv => whnf) | (refine addB_f9 ?_; conv => whnf) | (refine addB_f8 ?_; conv => whnf) | (refine addB_f7 ?_; conv => whnf) | (refine addB_f6 ?_; conv => whnf) | (refine addB_f5 ?_; conv => whnf) | (refine addB_f4 ?_; conv => whnf) | (refine addB_f3 ?_; conv => whnf) | (refine addB_f2 ?_; conv => whnf) | (refine addB_f1 ?_; conv => whnf) | (refine addB_f0 ?_; conv => whnf))
  exact ⟨rfl, [], by simp⟩
include hsc
set_option maxHeartbeats 0 in
theorem All_no {n0 n1 n2 n3 : Nat} (l0 : j0 < M.length) (l1 : j1 < M.length) (l2 : j2 < M.length) (l3 : j3 < M.length) (hf : ¬ Fit n n0 n1 n2 n3) (side : Int) (p : PlF) (lim : Int) (riv : Bool) (ra : Option Addr) (rl rc : Nat) :
    COk Tryz.prog 3 16 [.ptr (b + 1) 0, planV side p lim riv ra rl rc, seaV j0 j1 j2 j3 n0 n1 n2 n3 sky step] M (.tup [nilS', I 1]) (M ++ [⟨true, .cells [I side, F p.dt, F p.gr, F p.dr, I lim, Bo riv, .raw (.slice ra rl rc)]⟩, ⟨true, .cells [.sl j0 0 n0, .sl j1 0 n1, .sl j2 0 n2, .sl j3 0 n3, .int .i64 sky, I step]⟩]) := by
  have hs2 : scM (M ++ ([⟨true, .cells [I side, F p.dt, F p.gr, F p.dr, I lim, Bo riv, .raw (.slice ra rl rc)]⟩, ⟨true, .cells [.sl j0 0 n0, .sl j1 0 n1, .sl j2 0 n2, .sl j3 0 n3, .int .i64 sky, I step]⟩] : List Blk)).length (M ++ ([⟨true, .cells [I side, F p.dt, F p.gr, F p.dr, I lim, Bo riv, .raw (.slice ra rl rc)]⟩, ⟨true, .cells [.sl j0 0 n0, .sl j1 0 n1, .sl j2 0 n2, .sl j3 0 n3, .int .i64 sky, I step]⟩] : List Blk)) = true := scM_app (scM_mono (by simp) _ hsc) (by simp [scM, B.sc, scL, V.sc]; omega)
  by_cases h0 : n0 = 6 * (n * n)
  · by_cases h1 : n1 = 6 * (n * n)
    · by_cases h2 : n2 = 6 * (n * n)
      · have h3 : n3 ≠ (edges n).length := fun h3 => hf ⟨h0, h1, h2, h3⟩
        subst h0 h1 h2
        refine COk_of_ev Tryz.f16 Tryz.func16 (by kernel_rfl) (by simp) (by simp [V.sc, scL]) (.inr hs2) ?_
        (conv => whnf); repeat (first | (refine ⟨_, _, gcells_ok (N.more _), ?_⟩; conv => whnf) | (refine ⟨_, gcells_ok (N.more _), ?_⟩; conv => whnf) | (refine ⟨_, _, gedges_ok (N.more _), ?_⟩; conv => whnf) | (refine ⟨_, gedges_ok (N.more _), ?_⟩; conv => whnf) | (refine br_eq rfl ?_; conv => whnf) | (refine br_d (by omega) ?_; conv => whnf) | (refine br_nd (by omega) ?_; conv => whnf) | (refine br_eq (by omega) ?_; conv => whnf) | (refine br_neq (by omega) ?_; conv => whnf) | (refine br_ne (by omega) ?_; conv => whnf) | (refine br_no (bo_eqn (by omega)) ?_; conv => whnf) | (refine Or.inl ?_; conv => whnf) | (refine okS_no (by kernel_rfl) ?_; conv => whnf) | (refine okS_yes (by kernel_rfl) ?_; conv => whnf) | (refine And_of (by (conv => whnf); (rw [getB_app0]); (conv => whnf)) ?_; conv => whnf) | (refine setB_app ?_; conv => whnf) | (refine setB_app0 ?_; conv => whnf) | (rw [getB_app]; conv => whnf) | (rw [getB_app0]; conv => whnf) | (refine addB_f13 ?_; conv => whnf) | (refine addB_f12 ?_; conv => whnf) | (refine addB_f11 ?_; conv => whnf) | (refine addB_f10 ?_; conv => whnf) | (refine addB_f9 ?_; conv => whnf) | (refine addB_f8 ?_; conv => whnf) | (refine addB_f7 ?_; conv => whnf) | (refine addB_f6 ?_; conv => whnf) | (refine addB_f5 ?_; conv => whnf) | (refine addB_f4 ?_; conv => whnf) | (refine addB_f3 ?_; conv => whnf) | (refine addB_f2 ?_; conv => whnf) | (refine addB_f1 ?_; conv => whnf) | (refine addB_f0 ?_; conv => whnf))
        exact ⟨rfl, [], by rw [List.append_nil]; rfl⟩
      · subst h0 h1
        refine COk_of_ev Tryz.f16 Tryz.func16 (by kernel_rfl) (by simp) (by simp [V.sc, scL]) (.inr hs2) ?_
        (conv => whnf); repeat (first | (refine ⟨_, _, gcells_ok (N.more _), ?_⟩; conv => whnf) | (refine ⟨_, gcells_ok (N.more _), ?_⟩; conv => whnf) | (refine ⟨_, _, gedges_ok (N.more _), ?_⟩; conv => whnf) | (refine ⟨_, gedges_ok (N.more _), ?_⟩; conv => whnf) | (refine br_eq rfl ?_; conv => whnf) | (refine br_d (by omega) ?_; conv => whnf) | (refine br_nd (by omega) ?_; conv => whnf) | (refine br_eq (by omega) ?_; conv => whnf) | (refine br_neq (by omega) ?_; conv => whnf) | (refine br_ne (by omega) ?_; conv => whnf) | (refine br_no (bo_eqn (by omega)) ?_; conv => whnf) | (refine Or.inl ?_; conv => whnf) | (refine okS_no (by kernel_rfl) ?_; conv => whnf) | (refine okS_yes (by kernel_rfl) ?_; conv => whnf) | (refine And_of (by (conv => whnf); (rw [getB_app0]); (conv => whnf)) ?_; conv => whnf) | (refine setB_app ?_; conv => whnf) | (refine setB_app0 ?_; conv => whnf) | (rw [getB_app]; conv => whnf) | (rw [getB_app0]; conv => whnf) | (refine addB_f13 ?_; conv => whnf) | (refine addB_f12 ?_; conv => whnf) | (refine addB_f11 ?_; conv => whnf) | (refine addB_f10 ?_; conv => whnf) | (refine addB_f9 ?_; conv => whnf) | (refine addB_f8 ?_; conv => whnf) | (refine addB_f7 ?_; conv => whnf) | (refine addB_f6 ?_; conv => whnf) | (refine addB_f5 ?_; conv => whnf) | (refine addB_f4 ?_; conv => whnf) | (refine addB_f3 ?_; conv => whnf) | (refine addB_f2 ?_; conv => whnf) | (refine addB_f1 ?_; conv => whnf) | (refine addB_f0 ?_; conv => whnf))
        exact ⟨rfl, [], by rw [List.append_nil]; rfl⟩
    · subst h0
      refine COk_of_ev Tryz.f16 Tryz.func16 (by kernel_rfl) (by simp) (by simp [V.sc, scL]) (.inr hs2) ?_
      (conv => whnf); repeat (first | (refine ⟨_, _, gcells_ok (N.more _), ?_⟩; conv => whnf) | (refine ⟨_, gcells_ok (N.more _), ?_⟩; conv => whnf) | (refine ⟨_, _, gedges_ok (N.more _), ?_⟩; conv => whnf) | (refine ⟨_, gedges_ok (N.more _), ?_⟩; conv => whnf) | (refine br_eq rfl ?_; conv => whnf) | (refine br_d (by omega) ?_; conv => whnf) | (refine br_nd (by omega) ?_; conv => whnf) | (refine br_eq (by omega) ?_; conv => whnf) | (refine br_neq (by omega) ?_; conv => whnf) | (refine br_ne (by omega) ?_; conv => whnf) | (refine br_no (bo_eqn (by omega)) ?_; conv => whnf) | (refine Or.inl ?_; conv => whnf) | (refine okS_no (by kernel_rfl) ?_; conv => whnf) | (refine okS_yes (by kernel_rfl) ?_; conv => whnf) | (refine And_of (by (conv => whnf); (rw [getB_app0]); (conv => whnf)) ?_; conv => whnf) | (refine setB_app ?_; conv => whnf) | (refine setB_app0 ?_; conv => whnf) | (rw [getB_app]; conv => whnf) | (rw [getB_app0]; conv => whnf) | (refine addB_f13 ?_; conv => whnf) | (refine addB_f12 ?_; conv => whnf) | (refine addB_f11 ?_; conv => whnf) | (refine addB_f10 ?_; conv => whnf) | (refine addB_f9 ?_; conv => whnf) | (refine addB_f8 ?_; conv => whnf) | (refine addB_f7 ?_; conv => whnf) | (refine addB_f6 ?_; conv => whnf) | (refine addB_f5 ?_; conv => whnf) | (refine addB_f4 ?_; conv => whnf) | (refine addB_f3 ?_; conv => whnf) | (refine addB_f2 ?_; conv => whnf) | (refine addB_f1 ?_; conv => whnf) | (refine addB_f0 ?_; conv => whnf))
      exact ⟨rfl, [], by rw [List.append_nil]; rfl⟩
  · refine COk_of_ev Tryz.f16 Tryz.func16 (by kernel_rfl) (by simp) (by simp [V.sc, scL]) (.inr hs2) ?_
    (conv => whnf); repeat (first | (refine ⟨_, _, gcells_ok (N.more _), ?_⟩; conv => whnf) | (refine ⟨_, gcells_ok (N.more _), ?_⟩; conv => whnf) | (refine ⟨_, _, gedges_ok (N.more _), ?_⟩; conv => whnf) | (refine ⟨_, gedges_ok (N.more _), ?_⟩; conv => whnf) | (refine br_eq rfl ?_; conv => whnf) | (refine br_d (by omega) ?_; conv => whnf) | (refine br_nd (by omega) ?_; conv => whnf) | (refine br_eq (by omega) ?_; conv => whnf) | (refine br_neq (by omega) ?_; conv => whnf) | (refine br_ne (by omega) ?_; conv => whnf) | (refine br_no (bo_eqn (by omega)) ?_; conv => whnf) | (refine Or.inl ?_; conv => whnf) | (refine okS_no (by kernel_rfl) ?_; conv => whnf) | (refine okS_yes (by kernel_rfl) ?_; conv => whnf) | (refine And_of (by (conv => whnf); (rw [getB_app0]); (conv => whnf)) ?_; conv => whnf) | (refine setB_app ?_; conv => whnf) | (refine setB_app0 ?_; conv => whnf) | (rw [getB_app]; conv => whnf) | (rw [getB_app0]; conv => whnf) | (refine addB_f13 ?_; conv => whnf) | (refine addB_f12 ?_; conv => whnf) | (refine addB_f11 ?_; conv => whnf) | (refine addB_f10 ?_; conv => whnf) | (refine addB_f9 ?_; conv => whnf) | (refine addB_f8 ?_; conv => whnf) | (refine addB_f7 ?_; conv => whnf) | (refine addB_f6 ?_; conv => whnf) | (refine addB_f5 ?_; conv => whnf) | (refine addB_f4 ?_; conv => whnf) | (refine addB_f3 ?_; conv => whnf) | (refine addB_f2 ?_; conv => whnf) | (refine addB_f1 ?_; conv => whnf) | (refine addB_f0 ?_; conv => whnf))
    exact ⟨rfl, [], by rw [List.append_nil]; rfl⟩
end
abbrev plC (side : Int) (p : PlF) (lim : Int) (riv : Bool) (ra : Option Addr) (rl rc : Nat) : Blk := ⟨true, .cells [I side, F p.dt, F p.gr, F p.dr, I lim, Bo riv, .raw (.slice ra rl rc)]⟩
abbrev seC (j0 j1 j2 j3 n0 n1 n2 n3 : Nat) (sky step : Int) : Blk := ⟨true, .cells [.sl j0 0 n0, .sl j1 0 n1, .sl j2 0 n2, .sl j3 0 n3, .int .i64 sky, I step]⟩
abbrev coC (L n0 n1 n2 n3 : Nat) (sky step : Int) : Blk := ⟨true, .cells [.sk (L + 3) 0 n0 (n0 + 9), .sk (L + 7) 0 n1 (n1 + 9), .sk (L + 9) 0 n2 (n2 + 9), .sk (L + 5) 0 n3 (n3 + 9), .int .i64 sky, I step]⟩
/-- All, at memory that grows. -/
theorem All_up {M : List Blk} {b n : Nat} (hsc : scM M.length M = true) (N : Net M b n) {j0 j1 j2 j3 : Nat} {Be : List Nat} {Wt Tr : List Int} {Sp : List Nat} (S : SeaR M j0 j1 j2 j3 Be Wt Tr Sp) (sky step : Int) (hf : Fit n Be.length Wt.length Tr.length Sp.length) (hn : 1 ≤ n) (hn' : n ≤ 32) (side : Int) (p : PlF) (lim : Int) (riv : Bool) (ra : Option Addr) (rl rc : Nat) :
    ∃ M', COk Tryz.prog 3 16 [.ptr (b + 1) 0, planV side p lim riv ra rl rc, seaV j0 j1 j2 j3 Be.length Wt.length Tr.length Sp.length sky step] M (.tup [.sl (M.length + 2) 0 Sp.length, I 0]) M' ∧ Up M M' ∧ M'.length = M.length + 3 ∧ SlI M' (M.length + 2) 0 (tab Sp.length (fluxT n lim p.dt Be Wt Sp)) ∧ getB M' (M.length + 2) = ⟨true, .ints .i64 (tab Sp.length (fluxT n lim p.dt Be Wt Sp))⟩ := by
  have l0 := S.s0.lt
  have l1 := S.s1.lt
  have l2 := S.s2.lt
  have l3 := S.s3.lt
  have hlen := edges_len hn
  have hsq : n * n ≤ 1024 := Nat.mul_le_mul hn' hn'
  have q3 := hf.d
  refine ⟨_, All_at hsc N S sky step hf hn hn' side p lim riv ra rl rc, Up.of hsc (by simp [scM, B.sc, scL, V.sc]; omega), by simp, ?_, getB_app 2⟩
  exact SlI.tab (getB_app 2) (fun i _ => fluxT_in _ _ _ _ _ _ _) (by omega)
theorem recon_same {n : Nat} {lim : Int} {Be Be' : List Nat} {Wt Wt' : List Int} {y : Ed} (u : Nat) (b0 : Be'.getD y.1 0 = Be.getD y.1 0) (b1 : Be'.getD y.2.2.1 0 = Be.getD y.2.2.1 0) (w0 : Wt'.getD y.1 0 = Wt.getD y.1 0) (w1 : Wt'.getD y.2.2.1 0 = Wt.getD y.2.2.1 0)
    (w2 : Wt'.getD (nbC n y.1 ((y.2.1 + 2) % 4)).1 0 = Wt.getD (nbC n y.1 ((y.2.1 + 2) % 4)).1 0) (w3 : Wt'.getD (nbC n y.2.2.1 ((y.2.2.2 + 2) % 4)).1 0 = Wt.getD (nbC n y.2.2.1 ((y.2.2.2 + 2) % 4)).1 0) :
    reconF n lim Be' Wt' y u = reconF n lim Be Wt y u := by
  unfold reconF reconW slantF gateF dpE
  rw [b0, b1, w0, w1, w2, w3]
theorem Up.ex_app {A B C : List Blk} {z : List Blk} (h : Up A B) (k : Up (B ++ z) C) : ∃ y, C = A ++ y := by
  obtain ⟨x, rfl⟩ := h.ex
  obtain ⟨w, rfl⟩ := k.ex
  exact ⟨_, by rw [List.append_assoc, List.append_assoc]⟩
set_option maxHeartbeats 0 in
theorem edges13_ok {M : List Blk} (hm : Top M) (hsc : scM M.length M = true) (x : Int) (side : Int) (p : PlF) (lim : Int) (riv : Bool) (ra : Option Addr) (rl rc : Nat) {w : Bool} {j0 j1 j2 j3 : Nat} {Be : List Nat} {Wt Tr : List Int} {Sp : List Nat} (S : SeaB M w j0 j1 j2 j3 Be Wt Tr Sp) (sky step : Int) (e : Int)
    {o0 o1 o2 o3 : Nat} {oB : List Nat} {oW oT : List Int} {oS : List Nat} (O : SeaB M w o0 o1 o2 o3 oB oW oT oS) (osky ostep : Int) :
    COk Tryz.prog 3 4 [I x, planV side p lim riv ra rl rc, seaV j0 j1 j2 j3 Be.length Wt.length Tr.length Sp.length sky step, I e, seaV o0 o1 o2 o3 oB.length oW.length oT.length oS.length osky ostep] M (Bo true) M := by
  have l0 := S.read.s0.lt
  have l1 := S.read.s1.lt
  have l2 := S.read.s2.lt
  have l3 := S.read.s3.lt
  have m0 := O.read.s0.lt
  have m1 := O.read.s1.lt
  have m2 := O.read.s2.lt
  have m3 := O.read.s3.lt
  have u0 : Up M (M ++ ([plC side p lim riv ra rl rc, seC j0 j1 j2 j3 Be.length Wt.length Tr.length Sp.length sky step, seC o0 o1 o2 o3 oB.length oW.length oT.length oS.length osky ostep] : List Blk)) := Up.of hsc (by simp [scM, B.sc, scL, V.sc]; omega)
  have hlv := lives13_ok (hm.up u0) u0.sc
  have hlen0 := u0.len
  have hl2 : (M ++ ([plC side p lim riv ra rl rc, seC j0 j1 j2 j3 Be.length Wt.length Tr.length Sp.length sky step, seC o0 o1 o2 o3 oB.length oW.length oT.length oS.length osky ostep] : List Blk)).length = M.length + 3 := by simp
  by_cases h : 1 ≤ x ∧ x ≤ 32
  case neg =>
    have hno := fun m => new_no x h m
    have hx : x < 1 ∨ 32 < x := by omega
    rcases hx with hx | hx
    · refine COk_quiet Tryz.f4 Tryz.func4 (by kernel_rfl) rfl ?_
      (conv => whnf); repeat (first | (refine ⟨_, _, hlv, ?_⟩; conv => whnf) | (refine ⟨_, hlv, ?_⟩; conv => whnf) | (refine ⟨_, _, hno _, ?_⟩; conv => whnf) | (refine ⟨_, hno _, ?_⟩; conv => whnf) | (refine br_d (by omega) ?_; conv => whnf) | (refine br_nd (by omega) ?_; conv => whnf) | (refine br_eq (by omega) ?_; conv => whnf) | (refine br_neq (by omega) ?_; conv => whnf) | (refine br_ne (by omega) ?_; conv => whnf) | (refine br_no (bo_eqn (by omega)) ?_; conv => whnf) | (refine Or.inl ?_; conv => whnf) | (refine okS_no (by kernel_rfl) ?_; conv => whnf) | (refine okS_yes (by kernel_rfl) ?_; conv => whnf) | (refine And_of (by (conv => whnf); (rw [getB_app0]); (conv => whnf)) ?_; conv => whnf) | (refine setB_app ?_; conv => whnf) | (refine setB_app0 ?_; conv => whnf) | (rw [getB_app]; conv => whnf) | (rw [getB_app0]; conv => whnf) | (refine addB_f13 ?_; conv => whnf) | (refine addB_f12 ?_; conv => whnf) | (refine addB_f11 ?_; conv => whnf) | (refine addB_f10 ?_; conv => whnf) | (refine addB_f9 ?_; conv => whnf) | (refine addB_f8 ?_; conv => whnf) | (refine addB_f7 ?_; conv => whnf) | (refine addB_f6 ?_; conv => whnf) | (refine addB_f5 ?_; conv => whnf) | (refine addB_f4 ?_; conv => whnf) | (refine addB_f3 ?_; conv => whnf) | (refine addB_f2 ?_; conv => whnf) | (refine addB_f1 ?_; conv => whnf) | (refine addB_f0 ?_; conv => whnf))
      exact ⟨rfl, u0.ex⟩
    · refine COk_quiet Tryz.f4 Tryz.func4 (by kernel_rfl) rfl ?_
      (conv => whnf); repeat (first | (refine ⟨_, _, hlv, ?_⟩; conv => whnf) | (refine ⟨_, hlv, ?_⟩; conv => whnf) | (refine ⟨_, _, hno _, ?_⟩; conv => whnf) | (refine ⟨_, hno _, ?_⟩; conv => whnf) | (refine br_d (by omega) ?_; conv => whnf) | (refine br_nd (by omega) ?_; conv => whnf) | (refine br_eq (by omega) ?_; conv => whnf) | (refine br_neq (by omega) ?_; conv => whnf) | (refine br_ne (by omega) ?_; conv => whnf) | (refine br_no (bo_eqn (by omega)) ?_; conv => whnf) | (refine Or.inl ?_; conv => whnf) | (refine okS_no (by kernel_rfl) ?_; conv => whnf) | (refine okS_yes (by kernel_rfl) ?_; conv => whnf) | (refine And_of (by (conv => whnf); (rw [getB_app0]); (conv => whnf)) ?_; conv => whnf) | (refine setB_app ?_; conv => whnf) | (refine setB_app0 ?_; conv => whnf) | (rw [getB_app]; conv => whnf) | (rw [getB_app0]; conv => whnf) | (refine addB_f13 ?_; conv => whnf) | (refine addB_f12 ?_; conv => whnf) | (refine addB_f11 ?_; conv => whnf) | (refine addB_f10 ?_; conv => whnf) | (refine addB_f9 ?_; conv => whnf) | (refine addB_f8 ?_; conv => whnf) | (refine addB_f7 ?_; conv => whnf) | (refine addB_f6 ?_; conv => whnf) | (refine addB_f5 ?_; conv => whnf) | (refine addB_f4 ?_; conv => whnf) | (refine addB_f3 ?_; conv => whnf) | (refine addB_f2 ?_; conv => whnf) | (refine addB_f1 ?_; conv => whnf) | (refine addB_f0 ?_; conv => whnf))
      exact ⟨congrArg V.bool (by rw [decide_eq_true (by omega)]; rfl), u0.ex⟩
  obtain ⟨n, rfl⟩ : ∃ n : Nat, x = n := ⟨x.toNat, by omega⟩
  obtain ⟨hn, hn'⟩ : 1 ≤ n ∧ n ≤ 32 := by omega
  obtain ⟨b, M1, hnew, hN, u1⟩ := new_up (hm.up u0) u0.sc n hn hn'
  have hP : ∀ y, getB (M1 ++ y) M.length = plC side p lim riv ra rl rc := fun y => by
    obtain ⟨z, rfl⟩ := u1.ex
    exact getB_in (getB_in getB_app0 rfl) rfl
  have hS : ∀ y, getB (M1 ++ y) (M.length + 1) = seC j0 j1 j2 j3 Be.length Wt.length Tr.length Sp.length sky step := fun y => by
    obtain ⟨z, rfl⟩ := u1.ex
    exact getB_in (getB_in (getB_app 1) rfl) rfl
  have hO : ∀ y, getB (M1 ++ y) (M.length + 2) = seC o0 o1 o2 o3 oB.length oW.length oT.length oS.length osky ostep := fun y => by
    obtain ⟨z, rfl⟩ := u1.ex
    exact getB_in (getB_in (getB_app 2) rfl) rfl
  have hP0 := hP []
  have hS0 := hS []
  have hO0 := hO []
  rw [List.append_nil] at hP0 hS0 hO0
  have hlongS := fun m => long13_ok (M := m) (j0 := j0) (j1 := j1) (j2 := j2) (j3 := j3) sky step Be.length Wt.length Tr.length Sp.length
  have hlongO := fun m => long13_ok (M := m) (j0 := o0) (j1 := o1) (j2 := o2) (j3 := o3) osky ostep oB.length oW.length oT.length oS.length
  by_cases hls : longS Be.length Wt.length Tr.length Sp.length = true
  · rw [hls] at hlongS
    refine COk_quiet Tryz.f4 Tryz.func4 (by kernel_rfl) rfl ?_
    (conv => whnf); repeat (first | (refine ⟨_, _, hlv, ?_⟩; conv => whnf) | (refine ⟨_, hlv, ?_⟩; conv => whnf) | (refine ⟨_, _, hnew, ?_⟩; conv => whnf) | (refine ⟨_, hnew, ?_⟩; conv => whnf) | (rw [hS0]; conv => whnf) | (refine ⟨_, _, hlongS _, ?_⟩; conv => whnf) | (refine ⟨_, hlongS _, ?_⟩; conv => whnf) | (refine br_d (by omega) ?_; conv => whnf) | (refine br_nd (by omega) ?_; conv => whnf) | (refine br_eq (by omega) ?_; conv => whnf) | (refine br_neq (by omega) ?_; conv => whnf) | (refine br_ne (by omega) ?_; conv => whnf) | (refine br_no (bo_eqn (by omega)) ?_; conv => whnf) | (refine Or.inl ?_; conv => whnf) | (refine okS_no (by kernel_rfl) ?_; conv => whnf) | (refine okS_yes (by kernel_rfl) ?_; conv => whnf) | (refine And_of (by (conv => whnf); (rw [getB_app0]); (conv => whnf)) ?_; conv => whnf) | (refine setB_app ?_; conv => whnf) | (refine setB_app0 ?_; conv => whnf) | (rw [getB_app]; conv => whnf) | (rw [getB_app0]; conv => whnf) | (refine addB_f13 ?_; conv => whnf) | (refine addB_f12 ?_; conv => whnf) | (refine addB_f11 ?_; conv => whnf) | (refine addB_f10 ?_; conv => whnf) | (refine addB_f9 ?_; conv => whnf) | (refine addB_f8 ?_; conv => whnf) | (refine addB_f7 ?_; conv => whnf) | (refine addB_f6 ?_; conv => whnf) | (refine addB_f5 ?_; conv => whnf) | (refine addB_f4 ?_; conv => whnf) | (refine addB_f3 ?_; conv => whnf) | (refine addB_f2 ?_; conv => whnf) | (refine addB_f1 ?_; conv => whnf) | (refine addB_f0 ?_; conv => whnf))
    exact ⟨congrArg V.bool (by rw [decide_eq_false (by omega)]; rfl), (u0.trans u1).ex⟩
  rw [show longS Be.length Wt.length Tr.length Sp.length = false by simpa using hls] at hlongS
  by_cases hlg : longS oB.length oW.length oT.length oS.length = true
  · rw [hlg] at hlongO
    refine COk_quiet Tryz.f4 Tryz.func4 (by kernel_rfl) rfl ?_
    (conv => whnf); repeat (first | (refine ⟨_, _, hlv, ?_⟩; conv => whnf) | (refine ⟨_, hlv, ?_⟩; conv => whnf) | (refine ⟨_, _, hnew, ?_⟩; conv => whnf) | (refine ⟨_, hnew, ?_⟩; conv => whnf) | (rw [hS0]; conv => whnf) | (rw [hO0]; conv => whnf) | (refine ⟨_, _, hlongS _, ?_⟩; conv => whnf) | (refine ⟨_, hlongS _, ?_⟩; conv => whnf) | (refine ⟨_, _, hlongO _, ?_⟩; conv => whnf) | (refine ⟨_, hlongO _, ?_⟩; conv => whnf) | (refine br_d (by omega) ?_; conv => whnf) | (refine br_nd (by omega) ?_; conv => whnf) | (refine br_eq (by omega) ?_; conv => whnf) | (refine br_neq (by omega) ?_; conv => whnf) | (refine br_ne (by omega) ?_; conv => whnf) | (refine br_no (bo_eqn (by omega)) ?_; conv => whnf) | (refine Or.inl ?_; conv => whnf) | (refine okS_no (by kernel_rfl) ?_; conv => whnf) | (refine okS_yes (by kernel_rfl) ?_; conv => whnf) | (refine And_of (by (conv => whnf); (rw [getB_app0]); (conv => whnf)) ?_; conv => whnf) | (refine setB_app ?_; conv => whnf) | (refine setB_app0 ?_; conv => whnf) | (rw [getB_app]; conv => whnf) | (rw [getB_app0]; conv => whnf) | (refine addB_f13 ?_; conv => whnf) | (refine addB_f12 ?_; conv => whnf) | (refine addB_f11 ?_; conv => whnf) | (refine addB_f10 ?_; conv => whnf) | (refine addB_f9 ?_; conv => whnf) | (refine addB_f8 ?_; conv => whnf) | (refine addB_f7 ?_; conv => whnf) | (refine addB_f6 ?_; conv => whnf) | (refine addB_f5 ?_; conv => whnf) | (refine addB_f4 ?_; conv => whnf) | (refine addB_f3 ?_; conv => whnf) | (refine addB_f2 ?_; conv => whnf) | (refine addB_f1 ?_; conv => whnf) | (refine addB_f0 ?_; conv => whnf))
    exact ⟨congrArg V.bool (by rw [decide_eq_false (by omega)]; rfl), (u0.trans u1).ex⟩
  rw [show longS oB.length oW.length oT.length oS.length = false by simpa using hlg] at hlongO
  have hlg : ¬ (oB.length > 65536 ∨ oW.length > 65536 ∨ oT.length > 65536 ∨ oS.length > 65536) := by simpa [longS] using hlg
  have S0 := S.up (u0.trans u1)
  have S1 := S0.read
  have hlen := u1.len
  have hb := hN.lt
  have hel := edges_len hn
  have hsq : n * n ≤ 1024 := Nat.mul_le_mul hn' hn'
  by_cases hf : Fit n Be.length Wt.length Tr.length Sp.length
  case neg =>
    have hall := All_no (j0 := j0) (j1 := j1) (j2 := j2) (j3 := j3) hN sky step u1.sc (by omega) (by omega) (by omega) (by omega) hf side p lim riv ra rl rc
    refine COk_quiet Tryz.f4 Tryz.func4 (by kernel_rfl) rfl ?_
    (conv => whnf); repeat (first | (refine ⟨_, _, hlv, ?_⟩; conv => whnf) | (refine ⟨_, hlv, ?_⟩; conv => whnf) | (refine ⟨_, _, hnew, ?_⟩; conv => whnf) | (refine ⟨_, hnew, ?_⟩; conv => whnf) | (rw [hS0]; conv => whnf) | (rw [hO0]; conv => whnf) | (rw [hP0]; conv => whnf) | (refine ⟨_, _, hlongS _, ?_⟩; conv => whnf) | (refine ⟨_, hlongS _, ?_⟩; conv => whnf) | (refine ⟨_, _, hlongO _, ?_⟩; conv => whnf) | (refine ⟨_, hlongO _, ?_⟩; conv => whnf) | (refine ⟨_, _, hall, ?_⟩; conv => whnf) | (refine ⟨_, hall, ?_⟩; conv => whnf) | (refine br_d (by omega) ?_; conv => whnf) | (refine br_nd (by omega) ?_; conv => whnf) | (refine br_eq (by omega) ?_; conv => whnf) | (refine br_neq (by omega) ?_; conv => whnf) | (refine br_ne (by omega) ?_; conv => whnf) | (refine br_no (bo_eqn (by omega)) ?_; conv => whnf) | (refine Or.inl ?_; conv => whnf) | (refine okS_no (by kernel_rfl) ?_; conv => whnf) | (refine okS_yes (by kernel_rfl) ?_; conv => whnf) | (refine And_of (by (conv => whnf); (rw [getB_app0]); (conv => whnf)) ?_; conv => whnf) | (refine setB_app ?_; conv => whnf) | (refine setB_app0 ?_; conv => whnf) | (rw [getB_app]; conv => whnf) | (rw [getB_app0]; conv => whnf) | (refine addB_f13 ?_; conv => whnf) | (refine addB_f12 ?_; conv => whnf) | (refine addB_f11 ?_; conv => whnf) | (refine addB_f10 ?_; conv => whnf) | (refine addB_f9 ?_; conv => whnf) | (refine addB_f8 ?_; conv => whnf) | (refine addB_f7 ?_; conv => whnf) | (refine addB_f6 ?_; conv => whnf) | (refine addB_f5 ?_; conv => whnf) | (refine addB_f4 ?_; conv => whnf) | (refine addB_f3 ?_; conv => whnf) | (refine addB_f2 ?_; conv => whnf) | (refine addB_f1 ?_; conv => whnf) | (refine addB_f0 ?_; conv => whnf))
    exact ⟨rfl, (u0.trans u1).app _⟩
  obtain ⟨M2, hall, u2, e2, T2, hout⟩ := All_up u1.sc hN S1 sky step hf hn hn' side p lim riv ra rl rc
  have q0 := hf.a
  have q1 := hf.b
  have q2 := hf.c
  have hsp := hf.d
  have hN2 := hN.up u2
  have gP : ∀ z, getB (M2 ++ z) M.length = plC side p lim riv ra rl rc := fun z => by
    obtain ⟨v, rfl⟩ := u2.ex
    rw [List.append_assoc]; exact hP _
  have gS : ∀ z, getB (M2 ++ z) (M.length + 1) = seC j0 j1 j2 j3 Be.length Wt.length Tr.length Sp.length sky step := fun z => by
    obtain ⟨v, rfl⟩ := u2.ex
    rw [List.append_assoc]; exact hS _
  have gO : ∀ z, getB (M2 ++ z) (M.length + 2) = seC o0 o1 o2 o3 oB.length oW.length oT.length oS.length osky ostep := fun z => by
    obtain ⟨v, rfl⟩ := u2.ex
    rw [List.append_assoc]; exact hO _
  by_cases he : 0 ≤ e ∧ e < (edges n).length
  case neg =>
    refine COk_quiet Tryz.f4 Tryz.func4 (by kernel_rfl) rfl ?_
    (conv => whnf); repeat (first | (refine ⟨_, _, hlv, ?_⟩; conv => whnf) | (refine ⟨_, hlv, ?_⟩; conv => whnf) | (refine ⟨_, _, hnew, ?_⟩; conv => whnf) | (refine ⟨_, hnew, ?_⟩; conv => whnf) | (rw [hS0]; conv => whnf) | (rw [hO0]; conv => whnf) | (rw [hP0]; conv => whnf) | (refine ⟨_, _, hlongS _, ?_⟩; conv => whnf) | (refine ⟨_, hlongS _, ?_⟩; conv => whnf) | (refine ⟨_, _, hlongO _, ?_⟩; conv => whnf) | (refine ⟨_, hlongO _, ?_⟩; conv => whnf) | (refine ⟨_, _, hall, ?_⟩; conv => whnf) | (refine ⟨_, hall, ?_⟩; conv => whnf) | (refine ⟨_, _, edge_no (hN2.more _) e he, ?_⟩; conv => whnf) | (refine ⟨_, edge_no (hN2.more _) e he, ?_⟩; conv => whnf) | (refine ⟨_, _, edge_no hN2 e he, ?_⟩; conv => whnf) | (refine ⟨_, edge_no hN2 e he, ?_⟩; conv => whnf) | (refine ⟨_, _, behind_no (hN2.more _) e he, ?_⟩; conv => whnf) | (refine ⟨_, behind_no (hN2.more _) e he, ?_⟩; conv => whnf) | (refine br_d (by omega) ?_; conv => whnf) | (refine br_nd (by omega) ?_; conv => whnf) | (refine br_eq (by omega) ?_; conv => whnf) | (refine br_neq (by omega) ?_; conv => whnf) | (refine br_ne (by omega) ?_; conv => whnf) | (refine br_no (bo_eqn (by omega)) ?_; conv => whnf) | (refine Or.inl ?_; conv => whnf) | (refine okS_no (by kernel_rfl) ?_; conv => whnf) | (refine okS_yes (by kernel_rfl) ?_; conv => whnf) | (refine And_of (by (conv => whnf); (rw [getB_app0]); (conv => whnf)) ?_; conv => whnf) | (refine setB_app ?_; conv => whnf) | (refine setB_app0 ?_; conv => whnf) | (rw [getB_app]; conv => whnf) | (rw [getB_app0]; conv => whnf) | (refine addB_f13 ?_; conv => whnf) | (refine addB_f12 ?_; conv => whnf) | (refine addB_f11 ?_; conv => whnf) | (refine addB_f10 ?_; conv => whnf) | (refine addB_f9 ?_; conv => whnf) | (refine addB_f8 ?_; conv => whnf) | (refine addB_f7 ?_; conv => whnf) | (refine addB_f6 ?_; conv => whnf) | (refine addB_f5 ?_; conv => whnf) | (refine addB_f4 ?_; conv => whnf) | (refine addB_f3 ?_; conv => whnf) | (refine addB_f2 ?_; conv => whnf) | (refine addB_f1 ?_; conv => whnf) | (refine addB_f0 ?_; conv => whnf))
    exact ⟨rfl, ((u0.trans u1).trans u2).app _⟩
  obtain ⟨k, rfl⟩ : ∃ k : Nat, e = k := ⟨e.toNat, by omega⟩
  have hk : k < Sp.length := by omega
  have hx := List.getElem?_eq_getElem (l := edges n) (show k < (edges n).length by omega)
  generalize (edges n)[k] = y at hx
  obtain ⟨c1, _, c12, c2, _⟩ := edge_of hn hx
  obtain ⟨M3, hM3⟩ : ∃ M3, M3 = M2 ++ ([⟨true, .cells [I y.1, I y.2.1, I y.2.2.1, I y.2.2.2]⟩] : List Blk) := ⟨_, rfl⟩
  have uE : Up M2 M3 := by rw [hM3]; exact Up.of u2.sc rfl
  have uu := u2.trans uE
  have hN3 := hN.up uu
  have T0 := S0.up uu
  have S3 := T0.read
  have O3 := (O.up ((u0.trans u1).trans uu)).read
  have e3 : M3.length = M2.length + 1 := by rw [hM3]; simp
  have S2' : SeaR (M2 ++ ([⟨true, .cells [I y.1, I y.2.1, I y.2.2.1, I y.2.2.2]⟩] : List Blk)) j0 j1 j2 j3 Be Wt Tr Sp := by rw [← hM3]; exact S3
  have sc2 : scM (M2 ++ ([⟨true, .cells [I y.1, I y.2.1, I y.2.2.1, I y.2.2.2]⟩] : List Blk)).length (M2 ++ ([⟨true, .cells [I y.1, I y.2.1, I y.2.2.1, I y.2.2.2]⟩] : List Blk)) = true := by rw [← hM3]; exact uE.sc
  have hU : (tab Sp.length (fluxT n lim p.dt Be Wt Sp)).getD k 0 = fluxE n lim p.dt Be Wt Sp k y := by rw [tab_get hk, fluxT_at hx]
  have hdz := depth12_ok (vT := .sl j2 0 Tr.length) (vS := .sl j3 0 Sp.length) sc2 (hN2.more _) S2'.s0 S2'.s1 (by simp [V.sc]; omega) (by simp [V.sc]; omega) rfl rfl sky step hn hx q0 q1 lim (Sp.getD k 0)
  have hqu := fun m => quanta_ok (Sp.getD k 0) (reconF n lim Be Wt y (Sp.getD k 0)) (lnE n y) p.dt m
  have hat0 := fun (off : Nat) (K : V → Prop) (e : off = 0 + k * 1) => SlI.at (T2.app ([⟨true, .cells [I y.1, I y.2.1, I y.2.2.1, I y.2.2.2]⟩] : List Blk)) (i := k) (off := off) (K := K) (by rw [tab_len]; exact hk) e
  rw [hU] at hat0
  have hat : ∀ {off : Nat} {K : V → Prop}, off = 0 + k * 1 → K (.int .i64 (quantF (Sp.getD k 0) (reconF n lim Be Wt y (Sp.getD k 0)) (lnE n y) p.dt)) → rd1 (getB (M2 ++ ([⟨true, .cells [I y.1, I y.2.1, I y.2.2.1, I y.2.2.2]⟩] : List Blk)) (M1.length + 2)).b off K := fun {off K} e h => hat0 off K e h
  have hZ : ∀ {o : Nat}, oB.length = 0 ∨ oW.length = 0 ∨ oS.length = 0 → COk Tryz.prog 3 4 [I n, planV side p lim riv ra rl rc, seaV j0 j1 j2 j3 Be.length Wt.length Tr.length Sp.length sky step, I k, seaV o0 o1 o2 o3 oB.length oW.length oT.length oS.length osky ostep] M (Bo true) M := by
    intro o hz
    by_cases hz1 : oB.length = 0
    · refine COk_quiet Tryz.f4 Tryz.func4 (by kernel_rfl) rfl ?_
      (conv => whnf); repeat (first | (refine ⟨_, _, hlv, ?_⟩; conv => whnf) | (refine ⟨_, hlv, ?_⟩; conv => whnf) | (refine ⟨_, _, hnew, ?_⟩; conv => whnf) | (refine ⟨_, hnew, ?_⟩; conv => whnf) | (rw [hS0]; conv => whnf) | (rw [hO0]; conv => whnf) | (rw [hP0]; conv => whnf) | (refine ⟨_, _, hlongS _, ?_⟩; conv => whnf) | (refine ⟨_, hlongS _, ?_⟩; conv => whnf) | (refine ⟨_, _, hlongO _, ?_⟩; conv => whnf) | (refine ⟨_, hlongO _, ?_⟩; conv => whnf) | (refine ⟨_, _, hall, ?_⟩; conv => whnf) | (refine ⟨_, hall, ?_⟩; conv => whnf) | (refine ⟨_, _, edge_ok hN2 k y hx, ?_⟩; conv => whnf) | (refine ⟨_, edge_ok hN2 k y hx, ?_⟩; conv => whnf) | (refine ⟨_, _, behind_ok (hN2.more _) k y hx, ?_⟩; conv => whnf) | (refine ⟨_, behind_ok (hN2.more _) k y hx, ?_⟩; conv => whnf) | (rw [gS]; conv => whnf) | (rw [gP]; conv => whnf) | (rw [gO]; conv => whnf) | (refine hat rfl ?_; conv => whnf) | (refine SlF.at S2'.s3 (i := k) hk rfl ?_; conv => whnf) | (refine ⟨_, _, hdz, ?_⟩; conv => whnf) | (refine ⟨_, hdz, ?_⟩; conv => whnf) | (refine ⟨_, _, glength_ok (hN2.more _) k y hx, ?_⟩; conv => whnf) | (refine ⟨_, glength_ok (hN2.more _) k y hx, ?_⟩; conv => whnf) | (refine ⟨_, _, hqu _, ?_⟩; conv => whnf) | (refine ⟨_, hqu _, ?_⟩; conv => whnf) | (refine br_d (by omega) ?_; conv => whnf) | (refine br_nd (by omega) ?_; conv => whnf) | (refine br_eq (by omega) ?_; conv => whnf) | (refine br_neq (by omega) ?_; conv => whnf) | (refine br_ne (by omega) ?_; conv => whnf) | (refine br_no (bo_eqn (by omega)) ?_; conv => whnf) | (refine Or.inl ?_; conv => whnf) | (refine okS_no (by kernel_rfl) ?_; conv => whnf) | (refine okS_yes (by kernel_rfl) ?_; conv => whnf) | (refine And_of (by (conv => whnf); (rw [getB_app0]); (conv => whnf)) ?_; conv => whnf) | (refine setB_app ?_; conv => whnf) | (refine setB_app0 ?_; conv => whnf) | (rw [getB_app]; conv => whnf) | (rw [getB_app0]; conv => whnf) | (refine addB_f13 ?_; conv => whnf) | (refine addB_f12 ?_; conv => whnf) | (refine addB_f11 ?_; conv => whnf) | (refine addB_f10 ?_; conv => whnf) | (refine addB_f9 ?_; conv => whnf) | (refine addB_f8 ?_; conv => whnf) | (refine addB_f7 ?_; conv => whnf) | (refine addB_f6 ?_; conv => whnf) | (refine addB_f5 ?_; conv => whnf) | (refine addB_f4 ?_; conv => whnf) | (refine addB_f3 ?_; conv => whnf) | (refine addB_f2 ?_; conv => whnf) | (refine addB_f1 ?_; conv => whnf) | (refine addB_f0 ?_; conv => whnf))
      exact ⟨rfl, ((u0.trans u1).trans u2).app _⟩
    by_cases hz2 : oW.length = 0
    · refine COk_quiet Tryz.f4 Tryz.func4 (by kernel_rfl) rfl ?_
      (conv => whnf); repeat (first | (refine ⟨_, _, hlv, ?_⟩; conv => whnf) | (refine ⟨_, hlv, ?_⟩; conv => whnf) | (refine ⟨_, _, hnew, ?_⟩; conv => whnf) | (refine ⟨_, hnew, ?_⟩; conv => whnf) | (rw [hS0]; conv => whnf) | (rw [hO0]; conv => whnf) | (rw [hP0]; conv => whnf) | (refine ⟨_, _, hlongS _, ?_⟩; conv => whnf) | (refine ⟨_, hlongS _, ?_⟩; conv => whnf) | (refine ⟨_, _, hlongO _, ?_⟩; conv => whnf) | (refine ⟨_, hlongO _, ?_⟩; conv => whnf) | (refine ⟨_, _, hall, ?_⟩; conv => whnf) | (refine ⟨_, hall, ?_⟩; conv => whnf) | (refine ⟨_, _, edge_ok hN2 k y hx, ?_⟩; conv => whnf) | (refine ⟨_, edge_ok hN2 k y hx, ?_⟩; conv => whnf) | (refine ⟨_, _, behind_ok (hN2.more _) k y hx, ?_⟩; conv => whnf) | (refine ⟨_, behind_ok (hN2.more _) k y hx, ?_⟩; conv => whnf) | (rw [gS]; conv => whnf) | (rw [gP]; conv => whnf) | (rw [gO]; conv => whnf) | (refine hat rfl ?_; conv => whnf) | (refine SlF.at S2'.s3 (i := k) hk rfl ?_; conv => whnf) | (refine ⟨_, _, hdz, ?_⟩; conv => whnf) | (refine ⟨_, hdz, ?_⟩; conv => whnf) | (refine ⟨_, _, glength_ok (hN2.more _) k y hx, ?_⟩; conv => whnf) | (refine ⟨_, glength_ok (hN2.more _) k y hx, ?_⟩; conv => whnf) | (refine ⟨_, _, hqu _, ?_⟩; conv => whnf) | (refine ⟨_, hqu _, ?_⟩; conv => whnf) | (refine br_d (by omega) ?_; conv => whnf) | (refine br_nd (by omega) ?_; conv => whnf) | (refine br_eq (by omega) ?_; conv => whnf) | (refine br_neq (by omega) ?_; conv => whnf) | (refine br_ne (by omega) ?_; conv => whnf) | (refine br_no (bo_eqn (by omega)) ?_; conv => whnf) | (refine Or.inl ?_; conv => whnf) | (refine okS_no (by kernel_rfl) ?_; conv => whnf) | (refine okS_yes (by kernel_rfl) ?_; conv => whnf) | (refine And_of (by (conv => whnf); (rw [getB_app0]); (conv => whnf)) ?_; conv => whnf) | (refine setB_app ?_; conv => whnf) | (refine setB_app0 ?_; conv => whnf) | (rw [getB_app]; conv => whnf) | (rw [getB_app0]; conv => whnf) | (refine addB_f13 ?_; conv => whnf) | (refine addB_f12 ?_; conv => whnf) | (refine addB_f11 ?_; conv => whnf) | (refine addB_f10 ?_; conv => whnf) | (refine addB_f9 ?_; conv => whnf) | (refine addB_f8 ?_; conv => whnf) | (refine addB_f7 ?_; conv => whnf) | (refine addB_f6 ?_; conv => whnf) | (refine addB_f5 ?_; conv => whnf) | (refine addB_f4 ?_; conv => whnf) | (refine addB_f3 ?_; conv => whnf) | (refine addB_f2 ?_; conv => whnf) | (refine addB_f1 ?_; conv => whnf) | (refine addB_f0 ?_; conv => whnf))
      exact ⟨rfl, ((u0.trans u1).trans u2).app _⟩
    have hz3 : oS.length = 0 := by omega
    refine COk_quiet Tryz.f4 Tryz.func4 (by kernel_rfl) rfl ?_
    (conv => whnf); repeat (first | (refine ⟨_, _, hlv, ?_⟩; conv => whnf) | (refine ⟨_, hlv, ?_⟩; conv => whnf) | (refine ⟨_, _, hnew, ?_⟩; conv => whnf) | (refine ⟨_, hnew, ?_⟩; conv => whnf) | (rw [hS0]; conv => whnf) | (rw [hO0]; conv => whnf) | (rw [hP0]; conv => whnf) | (refine ⟨_, _, hlongS _, ?_⟩; conv => whnf) | (refine ⟨_, hlongS _, ?_⟩; conv => whnf) | (refine ⟨_, _, hlongO _, ?_⟩; conv => whnf) | (refine ⟨_, hlongO _, ?_⟩; conv => whnf) | (refine ⟨_, _, hall, ?_⟩; conv => whnf) | (refine ⟨_, hall, ?_⟩; conv => whnf) | (refine ⟨_, _, edge_ok hN2 k y hx, ?_⟩; conv => whnf) | (refine ⟨_, edge_ok hN2 k y hx, ?_⟩; conv => whnf) | (refine ⟨_, _, behind_ok (hN2.more _) k y hx, ?_⟩; conv => whnf) | (refine ⟨_, behind_ok (hN2.more _) k y hx, ?_⟩; conv => whnf) | (rw [gS]; conv => whnf) | (rw [gP]; conv => whnf) | (rw [gO]; conv => whnf) | (refine hat rfl ?_; conv => whnf) | (refine SlF.at S2'.s3 (i := k) hk rfl ?_; conv => whnf) | (refine ⟨_, _, hdz, ?_⟩; conv => whnf) | (refine ⟨_, hdz, ?_⟩; conv => whnf) | (refine ⟨_, _, glength_ok (hN2.more _) k y hx, ?_⟩; conv => whnf) | (refine ⟨_, glength_ok (hN2.more _) k y hx, ?_⟩; conv => whnf) | (refine ⟨_, _, hqu _, ?_⟩; conv => whnf) | (refine ⟨_, hqu _, ?_⟩; conv => whnf) | (refine br_d (by omega) ?_; conv => whnf) | (refine br_nd (by omega) ?_; conv => whnf) | (refine br_eq (by omega) ?_; conv => whnf) | (refine br_neq (by omega) ?_; conv => whnf) | (refine br_ne (by omega) ?_; conv => whnf) | (refine br_no (bo_eqn (by omega)) ?_; conv => whnf) | (refine Or.inl ?_; conv => whnf) | (refine okS_no (by kernel_rfl) ?_; conv => whnf) | (refine okS_yes (by kernel_rfl) ?_; conv => whnf) | (refine And_of (by (conv => whnf); (rw [getB_app0]); (conv => whnf)) ?_; conv => whnf) | (refine setB_app ?_; conv => whnf) | (refine setB_app0 ?_; conv => whnf) | (rw [getB_app]; conv => whnf) | (rw [getB_app0]; conv => whnf) | (refine addB_f13 ?_; conv => whnf) | (refine addB_f12 ?_; conv => whnf) | (refine addB_f11 ?_; conv => whnf) | (refine addB_f10 ?_; conv => whnf) | (refine addB_f9 ?_; conv => whnf) | (refine addB_f8 ?_; conv => whnf) | (refine addB_f7 ?_; conv => whnf) | (refine addB_f6 ?_; conv => whnf) | (refine addB_f5 ?_; conv => whnf) | (refine addB_f4 ?_; conv => whnf) | (refine addB_f3 ?_; conv => whnf) | (refine addB_f2 ?_; conv => whnf) | (refine addB_f1 ?_; conv => whnf) | (refine addB_f0 ?_; conv => whnf))
    exact ⟨rfl, ((u0.trans u1).trans u2).app _⟩
  by_cases hz : oB.length = 0 ∨ oW.length = 0 ∨ oS.length = 0
  · exact hZ (o := 0) hz
  clear hZ
  have kP : ∀ z, getB (M3 ++ z) M.length = plC side p lim riv ra rl rc := fun z => by
    obtain ⟨v, rfl⟩ := uE.ex
    rw [List.append_assoc]; exact gP _
  have kO : ∀ z, getB (M3 ++ z) (M.length + 2) = seC o0 o1 o2 o3 oB.length oW.length oT.length oS.length osky ostep := fun z => by
    obtain ⟨v, rfl⟩ := uE.ex
    rw [List.append_assoc]; exact gO _
  have kE : ∀ z, getB (M3 ++ z) M2.length = ⟨true, .cells [I y.1, I y.2.1, I y.2.2.1, I y.2.2.2]⟩ := fun z => by
    rw [hM3]; exact getB_in getB_app0 rfl
  have hcop := copied13_ok uE.sc T0 (by omega) (by omega) (by omega) (by omega) sky step
  have hcop : COk Tryz.prog 3 21 [seaV j0 j1 j2 j3 Be.length Wt.length Tr.length Sp.length sky step] (M2 ++ ([⟨true, .cells [I y.1, I y.2.1, I y.2.2.1, I y.2.2.2]⟩] : List Blk)) (.agg [.sk (M3.length + 3) 0 Be.length (Be.length + 9), .sk (M3.length + 7) 0 Wt.length (Wt.length + 9), .sk (M3.length + 9) 0 Tr.length (Tr.length + 9), .sk (M3.length + 5) 0 Sp.length (Sp.length + 9), .int .i64 sky, I step])
      (M3 ++ (cpL M3.length j0 j1 j2 j3 Be.length Wt.length Tr.length Sp.length sky step Be Wt Tr Sp)) := by rw [← hM3]; exact hcop
  have hscm : ∀ (B' : List Nat) (W' T' : List Int) (Z' : List Nat), scM (M3 ++ (cpL M3.length j0 j1 j2 j3 Be.length Wt.length Tr.length Sp.length sky step B' W' T' Z' ++ ([coC M3.length Be.length Wt.length Tr.length Sp.length sky step] : List Blk))).length (M3 ++ (cpL M3.length j0 j1 j2 j3 Be.length Wt.length Tr.length Sp.length sky step B' W' T' Z' ++ ([coC M3.length Be.length Wt.length Tr.length Sp.length sky step] : List Blk))) = true := fun B' W' T' Z' => scM_app (scM_mono (by simp) _ uE.sc) (by simp [scM, B.sc, scL, V.sc]; omega)
  generalize hA : (nbC n y.1 ((y.2.1 + 2) % 4)).1 = A
  generalize hB : (nbC n y.2.2.1 ((y.2.2.2 + 2) % 4)).1 = B
  have hbeh := fun z => behind_ok (hN2.more z) k y hx
  rw [hA, hB] at hbeh
  generalize hPP : (fun i => decide (i ≠ y.1 ∧ i ≠ y.2.2.1 ∧ i ≠ A ∧ i ≠ B)) = PP
  have hPL : PP y.1 = false := by rw [← hPP]; simp
  have hPR : PP y.2.2.1 = false := by rw [← hPP]; simp
  have hPA : PP A = false := by rw [← hPP]; simp
  have hPB : PP B = false := by rw [← hPP]; simp
  have hPt : ∀ i, i ≠ y.1 → i ≠ y.2.2.1 → i ≠ A → i ≠ B → PP i = true := fun i h1 h2 h3 h4 => by rw [← hPP]; simp [h1, h2, h3, h4]
  refine COk_quiet Tryz.f4 Tryz.func4 (by kernel_rfl) rfl ?_
  (conv => whnf); repeat (first | (refine ⟨_, _, hlv, ?_⟩; conv => whnf) | (refine ⟨_, hlv, ?_⟩; conv => whnf) | (refine ⟨_, _, hnew, ?_⟩; conv => whnf) | (refine ⟨_, hnew, ?_⟩; conv => whnf) | (rw [hS0]; conv => whnf) | (rw [hO0]; conv => whnf) | (rw [hP0]; conv => whnf) | (refine ⟨_, _, hlongS _, ?_⟩; conv => whnf) | (refine ⟨_, hlongS _, ?_⟩; conv => whnf) | (refine ⟨_, _, hlongO _, ?_⟩; conv => whnf) | (refine ⟨_, hlongO _, ?_⟩; conv => whnf) | (refine ⟨_, _, hall, ?_⟩; conv => whnf) | (refine ⟨_, hall, ?_⟩; conv => whnf) | (refine ⟨_, _, edge_ok hN2 k y hx, ?_⟩; conv => whnf) | (refine ⟨_, edge_ok hN2 k y hx, ?_⟩; conv => whnf) | (refine ⟨_, _, hbeh _, ?_⟩; conv => whnf) | (refine ⟨_, hbeh _, ?_⟩; conv => whnf) | (rw [gS]; conv => whnf) | (rw [gP]; conv => whnf) | (rw [gO]; conv => whnf) | (refine hat rfl ?_; conv => whnf) | (refine SlF.at S2'.s3 (i := k) hk rfl ?_; conv => whnf) | (refine ⟨_, _, hdz, ?_⟩; conv => whnf) | (refine ⟨_, hdz, ?_⟩; conv => whnf) | (refine ⟨_, _, glength_ok (hN2.more _) k y hx, ?_⟩; conv => whnf) | (refine ⟨_, glength_ok (hN2.more _) k y hx, ?_⟩; conv => whnf) | (refine ⟨_, _, hqu _, ?_⟩; conv => whnf) | (refine ⟨_, hqu _, ?_⟩; conv => whnf) | (refine ⟨_, _, hcop, ?_⟩; conv => whnf) | (refine ⟨_, hcop, ?_⟩; conv => whnf) | (refine br_d (by omega) ?_; conv => whnf) | (refine br_nd (by omega) ?_; conv => whnf) | (refine br_eq (by omega) ?_; conv => whnf) | (refine br_neq (by omega) ?_; conv => whnf) | (refine br_ne (by omega) ?_; conv => whnf) | (refine br_no (bo_eqn (by omega)) ?_; conv => whnf) | (refine Or.inl ?_; conv => whnf) | (refine okS_no (by kernel_rfl) ?_; conv => whnf) | (refine okS_yes (by kernel_rfl) ?_; conv => whnf) | (refine And_of (by (conv => whnf); (rw [getB_app0]); (conv => whnf)) ?_; conv => whnf) | (refine setB_app ?_; conv => whnf) | (refine setB_app0 ?_; conv => whnf) | (rw [getB_app]; conv => whnf) | (rw [getB_app0]; conv => whnf) | (refine addB_f13 ?_; conv => whnf) | (refine addB_f12 ?_; conv => whnf) | (refine addB_f11 ?_; conv => whnf) | (refine addB_f10 ?_; conv => whnf) | (refine addB_f9 ?_; conv => whnf) | (refine addB_f8 ?_; conv => whnf) | (refine addB_f7 ?_; conv => whnf) | (refine addB_f6 ?_; conv => whnf) | (refine addB_f5 ?_; conv => whnf) | (refine addB_f4 ?_; conv => whnf) | (refine addB_f3 ?_; conv => whnf) | (refine addB_f2 ?_; conv => whnf) | (refine addB_f1 ?_; conv => whnf) | (refine addB_f0 ?_; conv => whnf))
  refine loop_to (fun c => [.any, .any, .any, I k, .any, .any, .ptr M.length 0, .any, .any, .ptr (M.length + 2) 0, .any, .ptr (b + 1) 0, .any, .sl (M1.length + 2) 0 Sp.length, .ptr M2.length 0, .any, I A, I B, .any, .ptr (M3.length + 11) 0, I c, .any, .any, .any, .any, .any, .any, .any, .any, .any, .any, .any, .any, .any, .any, .any, .any, .any, .any, .any, .any, .any, .any, .any, .any, .any, .any, .any, .any, .any, .any, .any, .any, .any, .any, .any, .any, .any, .any, .any, .any, .any, .any, .any, .any, .any, .any, .any, .any, .any, .any, .any, .any, .any, .any, .any, .any, .any, .any, .any, .any, .any, .any, .any, .any, .any, .any, .any, .any, .any, .any, .any, .any, .any, .any, .any, .any, .any, .any, .any, .any, .any, .any, .any, .any, .any, .any, .any, .any, .any, .any, .any, .any, .any, .any, .any, .any, .any, .any, .any, .any, .any, .any, .any, .any, .any, .any, .any, .any, .any, .any, .any, .any, .any, .any, .any, .any, .any, .any, .any, .any, .any, .any, .any, .any, .any, .any, .any, .any, .any, .any, .any, .any, .any, .any, .any, .any, .any, .any, .any, .any, .any, .any, .any, .any, .any, .any, .any, .any, .any, .any, .any, .any, .any, .any, .any, .any, .any, .any, .any, .any, .any, .any, .any, .any, .any, .any, .any, .any, .any, .any, .any, .any, .any, .any, .any, .any, .any, .any, .any, .any, .any, .any, .any, .any, .any, .any, .any, .any, .any, .any, .any, .any, .any, .any, .any, .any, .any, .any, .any, .any, .any, .any, .any, .any, .any, .any, .any, .any, .any, .any, .any, .any, .any, .any, .any, .any, .any, .any, .any, .any, .any, .any, .any, .any, .any, .any, .any, .any, .any, .any, .any, .any, .any, .any, .any, .any, .any, .any, .any]) (fun c => M3 ++ (cpL M3.length j0 j1 j2 j3 Be.length Wt.length Tr.length Sp.length sky step (updT 0 Be PP (fun i => oB.getD (i % oB.length) 0) c) (updT 0 Wt PP (fun i => oW.getD (i % oW.length) 0) c) (updT 0 Tr PP (fun _ => 5) c) Sp ++ ([coC M3.length Be.length Wt.length Tr.length Sp.length sky step] : List Blk))) 0 Be.length (Nat.zero_le _) ?_ ?_ ?_
  · refine Fg.of [] ?_ (by rw [List.append_nil, upd_0, upd_0, upd_0]; rfl) (by simp) (by (simp [scL, V.sc]) <;> omega) (hscm _ _ _ _)
    conv => whnf
    exact ⟨rfl, rfl, rfl, rfl, rfl, rfl, rfl, rfl, rfl, rfl, rfl⟩
  · intro c _ hc
    by_cases hcs : PP c = true
    case neg =>
      have hcs := Bool.eq_false_iff.2 hcs
      have eB : updT 0 Be PP (fun i => oB.getD (i % oB.length) 0) c = updT 0 Be PP (fun i => oB.getD (i % oB.length) 0) (c + 1) := upd_skip hcs
      have eW : updT 0 Wt PP (fun i => oW.getD (i % oW.length) 0) c = updT 0 Wt PP (fun i => oW.getD (i % oW.length) 0) (c + 1) := upd_skip hcs
      have eT : updT 0 Tr PP (fun _ => 5) c = updT 0 Tr PP (fun _ => (5 : Int)) (c + 1) := upd_skip hcs
      by_cases hcL : c = y.1
      · (conv => whnf); repeat (first | (rw [kO]; conv => whnf) | (rw [kE]; conv => whnf) | (refine br_d (by omega) ?_; conv => whnf) | (refine br_nd (by omega) ?_; conv => whnf) | (refine br_eq (by omega) ?_; conv => whnf) | (refine br_neq (by omega) ?_; conv => whnf) | (refine br_ne (by omega) ?_; conv => whnf) | (refine br_no (bo_eqn (by omega)) ?_; conv => whnf) | (refine Or.inl ?_; conv => whnf) | (refine okS_no (by kernel_rfl) ?_; conv => whnf) | (refine okS_yes (by kernel_rfl) ?_; conv => whnf) | (refine And_of (by (conv => whnf); (rw [getB_app0]); (conv => whnf)) ?_; conv => whnf) | (refine setB_app ?_; conv => whnf) | (refine setB_app0 ?_; conv => whnf) | (rw [getB_app]; conv => whnf) | (rw [getB_app0]; conv => whnf) | (refine addB_f13 ?_; conv => whnf) | (refine addB_f12 ?_; conv => whnf) | (refine addB_f11 ?_; conv => whnf) | (refine addB_f10 ?_; conv => whnf) | (refine addB_f9 ?_; conv => whnf) | (refine addB_f8 ?_; conv => whnf) | (refine addB_f7 ?_; conv => whnf) | (refine addB_f6 ?_; conv => whnf) | (refine addB_f5 ?_; conv => whnf) | (refine addB_f4 ?_; conv => whnf) | (refine addB_f3 ?_; conv => whnf) | (refine addB_f2 ?_; conv => whnf) | (refine addB_f1 ?_; conv => whnf) | (refine addB_f0 ?_; conv => whnf))
        refine Fg.of [] ?_ (by rw [List.append_nil, ← eB, ← eW, ← eT]; try rfl) (by simp) (by (simp [scL, V.sc]) <;> omega) (hscm _ _ _ _)
        conv => whnf
        exact ⟨rfl, rfl, rfl, rfl, rfl, rfl, rfl, rfl, rfl, wrapKL (by omega), rfl⟩
      by_cases hcR : c = y.2.2.1
      · (conv => whnf); repeat (first | (rw [kO]; conv => whnf) | (rw [kE]; conv => whnf) | (refine br_d (by omega) ?_; conv => whnf) | (refine br_nd (by omega) ?_; conv => whnf) | (refine br_eq (by omega) ?_; conv => whnf) | (refine br_neq (by omega) ?_; conv => whnf) | (refine br_ne (by omega) ?_; conv => whnf) | (refine br_no (bo_eqn (by omega)) ?_; conv => whnf) | (refine Or.inl ?_; conv => whnf) | (refine okS_no (by kernel_rfl) ?_; conv => whnf) | (refine okS_yes (by kernel_rfl) ?_; conv => whnf) | (refine And_of (by (conv => whnf); (rw [getB_app0]); (conv => whnf)) ?_; conv => whnf) | (refine setB_app ?_; conv => whnf) | (refine setB_app0 ?_; conv => whnf) | (rw [getB_app]; conv => whnf) | (rw [getB_app0]; conv => whnf) | (refine addB_f13 ?_; conv => whnf) | (refine addB_f12 ?_; conv => whnf) | (refine addB_f11 ?_; conv => whnf) | (refine addB_f10 ?_; conv => whnf) | (refine addB_f9 ?_; conv => whnf) | (refine addB_f8 ?_; conv => whnf) | (refine addB_f7 ?_; conv => whnf) | (refine addB_f6 ?_; conv => whnf) | (refine addB_f5 ?_; conv => whnf) | (refine addB_f4 ?_; conv => whnf) | (refine addB_f3 ?_; conv => whnf) | (refine addB_f2 ?_; conv => whnf) | (refine addB_f1 ?_; conv => whnf) | (refine addB_f0 ?_; conv => whnf))
        refine Fg.of [] ?_ (by rw [List.append_nil, ← eB, ← eW, ← eT]; try rfl) (by simp) (by (simp [scL, V.sc]) <;> omega) (hscm _ _ _ _)
        conv => whnf
        exact ⟨rfl, rfl, rfl, rfl, rfl, rfl, rfl, rfl, rfl, wrapKL (by omega), rfl⟩
      by_cases hcA : c = A
      · (conv => whnf); repeat (first | (rw [kO]; conv => whnf) | (rw [kE]; conv => whnf) | (refine br_d (by omega) ?_; conv => whnf) | (refine br_nd (by omega) ?_; conv => whnf) | (refine br_eq (by omega) ?_; conv => whnf) | (refine br_neq (by omega) ?_; conv => whnf) | (refine br_ne (by omega) ?_; conv => whnf) | (refine br_no (bo_eqn (by omega)) ?_; conv => whnf) | (refine Or.inl ?_; conv => whnf) | (refine okS_no (by kernel_rfl) ?_; conv => whnf) | (refine okS_yes (by kernel_rfl) ?_; conv => whnf) | (refine And_of (by (conv => whnf); (rw [getB_app0]); (conv => whnf)) ?_; conv => whnf) | (refine setB_app ?_; conv => whnf) | (refine setB_app0 ?_; conv => whnf) | (rw [getB_app]; conv => whnf) | (rw [getB_app0]; conv => whnf) | (refine addB_f13 ?_; conv => whnf) | (refine addB_f12 ?_; conv => whnf) | (refine addB_f11 ?_; conv => whnf) | (refine addB_f10 ?_; conv => whnf) | (refine addB_f9 ?_; conv => whnf) | (refine addB_f8 ?_; conv => whnf) | (refine addB_f7 ?_; conv => whnf) | (refine addB_f6 ?_; conv => whnf) | (refine addB_f5 ?_; conv => whnf) | (refine addB_f4 ?_; conv => whnf) | (refine addB_f3 ?_; conv => whnf) | (refine addB_f2 ?_; conv => whnf) | (refine addB_f1 ?_; conv => whnf) | (refine addB_f0 ?_; conv => whnf))
        refine Fg.of [] ?_ (by rw [List.append_nil, ← eB, ← eW, ← eT]; try rfl) (by simp) (by (simp [scL, V.sc]) <;> omega) (hscm _ _ _ _)
        conv => whnf
        exact ⟨rfl, rfl, rfl, rfl, rfl, rfl, rfl, rfl, rfl, wrapKL (by omega), rfl⟩
      have hcB : c = B := Classical.byContradiction fun hcB => by rw [hPt c hcL hcR hcA hcB] at hcs; cases hcs
      (conv => whnf); repeat (first | (rw [kO]; conv => whnf) | (rw [kE]; conv => whnf) | (refine br_d (by omega) ?_; conv => whnf) | (refine br_nd (by omega) ?_; conv => whnf) | (refine br_eq (by omega) ?_; conv => whnf) | (refine br_neq (by omega) ?_; conv => whnf) | (refine br_ne (by omega) ?_; conv => whnf) | (refine br_no (bo_eqn (by omega)) ?_; conv => whnf) | (refine Or.inl ?_; conv => whnf) | (refine okS_no (by kernel_rfl) ?_; conv => whnf) | (refine okS_yes (by kernel_rfl) ?_; conv => whnf) | (refine And_of (by (conv => whnf); (rw [getB_app0]); (conv => whnf)) ?_; conv => whnf) | (refine setB_app ?_; conv => whnf) | (refine setB_app0 ?_; conv => whnf) | (rw [getB_app]; conv => whnf) | (rw [getB_app0]; conv => whnf) | (refine addB_f13 ?_; conv => whnf) | (refine addB_f12 ?_; conv => whnf) | (refine addB_f11 ?_; conv => whnf) | (refine addB_f10 ?_; conv => whnf) | (refine addB_f9 ?_; conv => whnf) | (refine addB_f8 ?_; conv => whnf) | (refine addB_f7 ?_; conv => whnf) | (refine addB_f6 ?_; conv => whnf) | (refine addB_f5 ?_; conv => whnf) | (refine addB_f4 ?_; conv => whnf) | (refine addB_f3 ?_; conv => whnf) | (refine addB_f2 ?_; conv => whnf) | (refine addB_f1 ?_; conv => whnf) | (refine addB_f0 ?_; conv => whnf))
      refine Fg.of [] ?_ (by rw [List.append_nil, ← eB, ← eW, ← eT]; try rfl) (by simp) (by (simp [scL, V.sc]) <;> omega) (hscm _ _ _ _)
      conv => whnf
      exact ⟨rfl, rfl, rfl, rfl, rfl, rfl, rfl, rfl, rfl, wrapKL (by omega), rfl⟩
    have hcL : c ≠ y.1 := fun h => by rw [h, hPL] at hcs; cases hcs
    have hcR : c ≠ y.2.2.1 := fun h => by rw [h, hPR] at hcs; cases hcs
    have hcA : c ≠ A := fun h => by rw [h, hPA] at hcs; cases hcs
    have hcB : c ≠ B := fun h => by rw [h, hPB] at hcs; cases hcs
    have eT : (cpI (updT 0 Tr PP (fun _ => 5) c)).set (0 + c * 1) 5 = cpI (updT 0 Tr PP (fun _ => 5) (c + 1)) := (cpI_set (by rw [upd_len]; omega)).trans (congrArg cpI (upd_set (G := fun _ => (5 : Int)) hcs))
    have eB : (cpF (updT 0 Be PP (fun i => oB.getD (i % oB.length) 0) c)).set (0 + c * 1) (oB.getD (c % oB.length) 0) = cpF (updT 0 Be PP (fun i => oB.getD (i % oB.length) 0) (c + 1)) := (cpF_set (by rw [upd_len]; omega)).trans (congrArg cpF (upd_set (G := fun i => oB.getD (i % oB.length) 0) hcs))
    have eW : (cpI (updT 0 Wt PP (fun i => oW.getD (i % oW.length) 0) c)).set (0 + c * 1) (oW.getD (c % oW.length) 0) = cpI (updT 0 Wt PP (fun i => oW.getD (i % oW.length) 0) (c + 1)) := (cpI_set (by rw [upd_len]; omega)).trans (congrArg cpI (upd_set (G := fun i => oW.getD (i % oW.length) 0) hcs))
    have mB := Nat.mod_lt c (show 0 < oB.length by omega)
    have mW := Nat.mod_lt c (show 0 < oW.length by omega)
    have rB := rem_nat (c := c) (m := oB.length)
    have rW := rem_nat (c := c) (m := oW.length)
    (conv => whnf); repeat (first | (rw [kO]; conv => whnf) | (rw [kE]; conv => whnf) | (rw [rB]; conv => whnf) | (rw [rW]; conv => whnf) | (refine br_yes (cpI_blt (by (rw [upd_len]); omega)) ?_; conv => whnf) | (refine br_yes (cpF_blt (by (rw [upd_len]); omega)) ?_; conv => whnf) | (refine SlF.at (O3.s0.app _) (i := c % oB.length) mB rfl ?_; conv => whnf) | (refine SlI.at (O3.s1.app _) (i := c % oW.length) mW rfl ?_; conv => whnf) | (refine put_at (blkI eT) ?_; conv => whnf) | (refine put_at (blkF eB) ?_; conv => whnf) | (refine put_at (blkI eW) ?_; conv => whnf) | (refine br_d (by omega) ?_; conv => whnf) | (refine br_nd (by omega) ?_; conv => whnf) | (refine br_eq (by omega) ?_; conv => whnf) | (refine br_neq (by omega) ?_; conv => whnf) | (refine br_ne (by omega) ?_; conv => whnf) | (refine br_no (bo_eqn (by omega)) ?_; conv => whnf) | (refine Or.inl ?_; conv => whnf) | (refine okS_no (by kernel_rfl) ?_; conv => whnf) | (refine okS_yes (by kernel_rfl) ?_; conv => whnf) | (refine And_of (by (conv => whnf); (rw [getB_app0]); (conv => whnf)) ?_; conv => whnf) | (refine setB_app ?_; conv => whnf) | (refine setB_app0 ?_; conv => whnf) | (rw [getB_app]; conv => whnf) | (rw [getB_app0]; conv => whnf) | (refine addB_f13 ?_; conv => whnf) | (refine addB_f12 ?_; conv => whnf) | (refine addB_f11 ?_; conv => whnf) | (refine addB_f10 ?_; conv => whnf) | (refine addB_f9 ?_; conv => whnf) | (refine addB_f8 ?_; conv => whnf) | (refine addB_f7 ?_; conv => whnf) | (refine addB_f6 ?_; conv => whnf) | (refine addB_f5 ?_; conv => whnf) | (refine addB_f4 ?_; conv => whnf) | (refine addB_f3 ?_; conv => whnf) | (refine addB_f2 ?_; conv => whnf) | (refine addB_f1 ?_; conv => whnf) | (refine addB_f0 ?_; conv => whnf))
    refine Fg.of [] ?_ (by rw [List.append_nil]; rfl) (by simp) (by (simp [scL, V.sc]) <;> omega) (hscm _ _ _ _)
    conv => whnf
    exact ⟨rfl, rfl, rfl, rfl, rfl, rfl, rfl, rfl, rfl, wrapKL (by omega), rfl⟩
  · (conv => whnf); repeat (first | (refine br_d (by omega) ?_; conv => whnf) | (refine br_nd (by omega) ?_; conv => whnf) | (refine br_eq (by omega) ?_; conv => whnf) | (refine br_neq (by omega) ?_; conv => whnf) | (refine br_ne (by omega) ?_; conv => whnf) | (refine br_no (bo_eqn (by omega)) ?_; conv => whnf) | (refine Or.inl ?_; conv => whnf) | (refine okS_no (by kernel_rfl) ?_; conv => whnf) | (refine okS_yes (by kernel_rfl) ?_; conv => whnf) | (refine And_of (by (conv => whnf); (rw [getB_app0]); (conv => whnf)) ?_; conv => whnf) | (refine setB_app ?_; conv => whnf) | (refine setB_app0 ?_; conv => whnf) | (rw [getB_app]; conv => whnf) | (rw [getB_app0]; conv => whnf) | (refine addB_f13 ?_; conv => whnf) | (refine addB_f12 ?_; conv => whnf) | (refine addB_f11 ?_; conv => whnf) | (refine addB_f10 ?_; conv => whnf) | (refine addB_f9 ?_; conv => whnf) | (refine addB_f8 ?_; conv => whnf) | (refine addB_f7 ?_; conv => whnf) | (refine addB_f6 ?_; conv => whnf) | (refine addB_f5 ?_; conv => whnf) | (refine addB_f4 ?_; conv => whnf) | (refine addB_f3 ?_; conv => whnf) | (refine addB_f2 ?_; conv => whnf) | (refine addB_f1 ?_; conv => whnf) | (refine addB_f0 ?_; conv => whnf))
    generalize hBx : updT 0 Be PP (fun i => oB.getD (i % oB.length) 0) Be.length = Bx
    generalize hWx : updT 0 Wt PP (fun i => oW.getD (i % oW.length) 0) Be.length = Wx
    generalize hTx : updT 0 Tr PP (fun _ => (5 : Int)) Be.length = Tx
    generalize hQQ : (fun i => decide (i ≠ k)) = QQ
    have hQk : QQ k = false := by rw [← hQQ]; simp
    have hQt : ∀ i, i ≠ k → QQ i = true := fun i h1 => by rw [← hQQ]; simp [h1]
    refine loop_to (fun c => [.any, .any, .any, I k, .any, .any, .ptr M.length 0, .any, .any, .ptr (M.length + 2) 0, .any, .ptr (b + 1) 0, .any, .sl (M1.length + 2) 0 Sp.length, .any, .any, .any, .any, .any, .ptr (M3.length + 11) 0, .any, I c, .any, .any, .any, .any, .any, .any, .any, .any, .any, .any, .any, .any, .any, .any, .any, .any, .any, .any, .any, .any, .any, .any, .any, .any, .any, .any, .any, .any, .any, .any, .any, .any, .any, .any, .any, .any, .any, .any, .any, .any, .any, .any, .any, .any, .any, .any, .any, .any, .any, .any, .any, .any, .any, .any, .any, .any, .any, .any, .any, .any, .any, .any, .any, .any, .any, .any, .any, .any, .any, .any, .any, .any, .any, .any, .any, .any, .any, .any, .any, .any, .any, .any, .any, .any, .any, .any, .any, .any, .any, .any, .any, .any, .any, .any, .any, .any, .any, .any, .any, .any, .any, .any, .any, .any, .any, .any, .any, .any, .any, .any, .any, .any, .any, .any, .any, .any, .any, .any, .any, .any, .any, .any, .any, .any, .any, .any, .any, .any, .any, .any, .any, .any, .any, .any, .any, .any, .any, .any, .any, .any, .any, .any, .any, .any, .any, .any, .any, .any, .any, .any, .any, .any, .any, .any, .any, .any, .any, .any, .any, .any, .any, .any, .any, .any, .any, .any, .any, .any, .any, .any, .any, .any, .any, .any, .any, .any, .any, .any, .any, .any, .any, .any, .any, .any, .any, .any, .any, .any, .any, .any, .any, .any, .any, .any, .any, .any, .any, .any, .any, .any, .any, .any, .any, .any, .any, .any, .any, .any, .any, .any, .any, .any, .any, .any, .any, .any, .any, .any, .any, .any, .any, .any, .any, .any, .any, .any, .any, .any, .any, .any, .any, .any, .any, .any, .any, .any, .any, .any]) (fun c => M3 ++ (cpL M3.length j0 j1 j2 j3 Be.length Wt.length Tr.length Sp.length sky step Bx Wx Tx (updT 0 Sp QQ (fun i => oS.getD (i % oS.length) 0) c) ++ ([coC M3.length Be.length Wt.length Tr.length Sp.length sky step] : List Blk))) 0 Sp.length (Nat.zero_le _) ?_ ?_ ?_
    · refine Fg.of [] ?_ (by rw [List.append_nil, upd_0]; try rfl) (by simp) (by (simp [scL, V.sc]) <;> omega) (hscm _ _ _ _)
      conv => whnf
      exact ⟨rfl, rfl, rfl, rfl, rfl, rfl, rfl, rfl⟩
    · intro c _ hc
      by_cases hck : c = k
      · have eS : updT 0 Sp QQ (fun i => oS.getD (i % oS.length) 0) c = updT 0 Sp QQ (fun i => oS.getD (i % oS.length) 0) (c + 1) := upd_skip (by rw [hck]; exact hQk)
        (conv => whnf); repeat (first | (rw [kO]; conv => whnf) | (refine br_d (by omega) ?_; conv => whnf) | (refine br_nd (by omega) ?_; conv => whnf) | (refine br_eq (by omega) ?_; conv => whnf) | (refine br_neq (by omega) ?_; conv => whnf) | (refine br_ne (by omega) ?_; conv => whnf) | (refine br_no (bo_eqn (by omega)) ?_; conv => whnf) | (refine Or.inl ?_; conv => whnf) | (refine okS_no (by kernel_rfl) ?_; conv => whnf) | (refine okS_yes (by kernel_rfl) ?_; conv => whnf) | (refine And_of (by (conv => whnf); (rw [getB_app0]); (conv => whnf)) ?_; conv => whnf) | (refine setB_app ?_; conv => whnf) | (refine setB_app0 ?_; conv => whnf) | (rw [getB_app]; conv => whnf) | (rw [getB_app0]; conv => whnf) | (refine addB_f13 ?_; conv => whnf) | (refine addB_f12 ?_; conv => whnf) | (refine addB_f11 ?_; conv => whnf) | (refine addB_f10 ?_; conv => whnf) | (refine addB_f9 ?_; conv => whnf) | (refine addB_f8 ?_; conv => whnf) | (refine addB_f7 ?_; conv => whnf) | (refine addB_f6 ?_; conv => whnf) | (refine addB_f5 ?_; conv => whnf) | (refine addB_f4 ?_; conv => whnf) | (refine addB_f3 ?_; conv => whnf) | (refine addB_f2 ?_; conv => whnf) | (refine addB_f1 ?_; conv => whnf) | (refine addB_f0 ?_; conv => whnf))
        refine Fg.of [] ?_ (by rw [List.append_nil, ← eS]; try rfl) (by simp) (by (simp [scL, V.sc]) <;> omega) (hscm _ _ _ _)
        conv => whnf
        exact ⟨rfl, rfl, rfl, rfl, rfl, rfl, wrapKL (by omega), rfl⟩
      · have eS : (cpF (updT 0 Sp QQ (fun i => oS.getD (i % oS.length) 0) c)).set (0 + c * 1) (oS.getD (c % oS.length) 0) = cpF (updT 0 Sp QQ (fun i => oS.getD (i % oS.length) 0) (c + 1)) := (cpF_set (by rw [upd_len]; omega)).trans (congrArg cpF (upd_set (G := fun i => oS.getD (i % oS.length) 0) (hQt c hck)))
        have mS := Nat.mod_lt c (show 0 < oS.length by omega)
        have rS := rem_nat (c := c) (m := oS.length)
        (conv => whnf); repeat (first | (rw [kO]; conv => whnf) | (rw [rS]; conv => whnf) | (refine br_yes (cpF_blt (by (rw [upd_len]); omega)) ?_; conv => whnf) | (refine SlF.at (O3.s3.app _) (i := c % oS.length) mS rfl ?_; conv => whnf) | (refine put_at (blkF eS) ?_; conv => whnf) | (refine br_d (by omega) ?_; conv => whnf) | (refine br_nd (by omega) ?_; conv => whnf) | (refine br_eq (by omega) ?_; conv => whnf) | (refine br_neq (by omega) ?_; conv => whnf) | (refine br_ne (by omega) ?_; conv => whnf) | (refine br_no (bo_eqn (by omega)) ?_; conv => whnf) | (refine Or.inl ?_; conv => whnf) | (refine okS_no (by kernel_rfl) ?_; conv => whnf) | (refine okS_yes (by kernel_rfl) ?_; conv => whnf) | (refine And_of (by (conv => whnf); (rw [getB_app0]); (conv => whnf)) ?_; conv => whnf) | (refine setB_app ?_; conv => whnf) | (refine setB_app0 ?_; conv => whnf) | (rw [getB_app]; conv => whnf) | (rw [getB_app0]; conv => whnf) | (refine addB_f13 ?_; conv => whnf) | (refine addB_f12 ?_; conv => whnf) | (refine addB_f11 ?_; conv => whnf) | (refine addB_f10 ?_; conv => whnf) | (refine addB_f9 ?_; conv => whnf) | (refine addB_f8 ?_; conv => whnf) | (refine addB_f7 ?_; conv => whnf) | (refine addB_f6 ?_; conv => whnf) | (refine addB_f5 ?_; conv => whnf) | (refine addB_f4 ?_; conv => whnf) | (refine addB_f3 ?_; conv => whnf) | (refine addB_f2 ?_; conv => whnf) | (refine addB_f1 ?_; conv => whnf) | (refine addB_f0 ?_; conv => whnf))
        refine Fg.of [] ?_ (by rw [List.append_nil]; rfl) (by simp) (by (simp [scL, V.sc]) <;> omega) (hscm _ _ _ _)
        conv => whnf
        exact ⟨rfl, rfl, rfl, rfl, rfl, rfl, wrapKL (by omega), rfl⟩
    · generalize hSx : updT 0 Sp QQ (fun i => oS.getD (i % oS.length) 0) Sp.length = Sx
      have lB : Bx.length = Be.length := by rw [← hBx]; exact upd_len _ _ _ _ _
      have lW : Wx.length = Wt.length := by rw [← hWx]; exact upd_len _ _ _ _ _
      have lT : Tx.length = Tr.length := by rw [← hTx]; exact upd_len _ _ _ _ _
      have lS : Sx.length = Sp.length := by rw [← hSx]; exact upd_len _ _ _ _ _
      have hS3 : SeaR (M3 ++ (cpL M3.length j0 j1 j2 j3 Be.length Wt.length Tr.length Sp.length sky step Bx Wx Tx Sx ++ ([coC M3.length Be.length Wt.length Tr.length Sp.length sky step] : List Blk))) (M3.length + 3) (M3.length + 7) (M3.length + 9) (M3.length + 5) Bx Wx Tx Sx :=
        ⟨cop_F (getB_app 3) (by rw [← hBx]; exact upd_wf S3.s0.wf fun i _ => O.f0 _ (Nat.mod_lt i (by omega))) (by omega),
          cop_I (getB_app 7) (by rw [← hWx]; exact upd_wf S3.s1.wf fun i _ => O.f1 _ (Nat.mod_lt i (by omega))) (by omega),
          cop_I (getB_app 9) (by rw [← hTx]; exact upd_wf S3.s2.wf fun i _ => by decide) (by omega),
          cop_F (getB_app 5) (by rw [← hSx]; exact upd_wf S3.s3.wf fun i _ => O.f3 _ (Nat.mod_lt i (by omega))) (by omega)⟩
      have hf3 : Fit n Bx.length Wx.length Tx.length Sx.length := by rw [lB, lW, lT, lS]; exact hf
      obtain ⟨M5, hall5, u5, e5, T5, _⟩ := All_up (hscm Bx Wx Tx Sx) (hN3.more _) hS3 sky step hf3 hn hn' side p lim riv ra rl rc
      rw [lB, lW, lT, lS] at hall5
      rw [lS] at T5
      have hall5 := sk_3' (k0 := Be.length + 9) (k1 := Wt.length + 9) (k2 := Tr.length + 9) (k3 := Sp.length + 9) hall5
      have a1 : ∀ {i : Nat}, PP i = false → i < 6 * (n * n) → Bx.getD i 0 = Be.getD i 0 := fun {i} h1 h2 => by rw [← hBx]; exact upd_at (by omega) h1
      have a2 : ∀ {i : Nat}, PP i = false → i < 6 * (n * n) → Wx.getD i 0 = Wt.getD i 0 := fun {i} h1 h2 => by rw [← hWx]; exact upd_at (by omega) h1
      have b1 := (nbC_lt (s := (y.2.1 + 2) % 4) hn c1).1
      have b2 := (nbC_lt (s := (y.2.2.2 + 2) % 4) hn c2).1
      have hv : fluxE n lim p.dt Bx Wx Sx k y = fluxE n lim p.dt Be Wt Sp k y := by
        unfold fluxE
        rw [← hSx, upd_at hk hQk, recon_same (Be := Be) (Be' := Bx) (Wt := Wt) (Wt' := Wx) _ (a1 hPL c1) (a1 hPR c2) (a2 hPL c1) (a2 hPR c2) (by rw [hA]; exact a2 hPA (by rw [← hA]; exact b1)) (by rw [hB]; exact a2 hPB (by rw [← hB]; exact b2))]
      have hU5 : (tab Sp.length (fluxT n lim p.dt Bx Wx Sx)).getD k 0 = fluxE n lim p.dt Be Wt Sp k y := by rw [tab_get hk, fluxT_at hx, hv]
      have T2' : SlI M5 (M1.length + 2) 0 (tab Sp.length (fluxT n lim p.dt Be Wt Sp)) := (T2.up uE).app _ |>.up u5
      have f5 := fun (off : Nat) (K : V → Prop) (e : off = 0 + k * 1) => SlI.at T5 (i := k) (off := off) (K := K) (by rw [tab_len]; exact hk) e
      have f2 := fun (off : Nat) (K : V → Prop) (e : off = 0 + k * 1) => SlI.at T2' (i := k) (off := off) (K := K) (by rw [tab_len]; exact hk) e
      rw [hU5] at f5
      rw [hU] at f2
      (conv => whnf); repeat (first | (rw [kP]; conv => whnf) | (refine ⟨_, _, hall5, ?_⟩; conv => whnf) | (refine ⟨_, hall5, ?_⟩; conv => whnf) | (refine f5 _ _ rfl ?_; conv => whnf) | (refine f2 _ _ rfl ?_; conv => whnf) | (refine br_d (by omega) ?_; conv => whnf) | (refine br_nd (by omega) ?_; conv => whnf) | (refine br_eq (by omega) ?_; conv => whnf) | (refine br_neq (by omega) ?_; conv => whnf) | (refine br_ne (by omega) ?_; conv => whnf) | (refine br_no (bo_eqn (by omega)) ?_; conv => whnf) | (refine Or.inl ?_; conv => whnf) | (refine okS_no (by kernel_rfl) ?_; conv => whnf) | (refine okS_yes (by kernel_rfl) ?_; conv => whnf) | (refine And_of (by (conv => whnf); (rw [getB_app0]); (conv => whnf)) ?_; conv => whnf) | (refine setB_app ?_; conv => whnf) | (refine setB_app0 ?_; conv => whnf) | (rw [getB_app]; conv => whnf) | (rw [getB_app0]; conv => whnf) | (refine addB_f13 ?_; conv => whnf) | (refine addB_f12 ?_; conv => whnf) | (refine addB_f11 ?_; conv => whnf) | (refine addB_f10 ?_; conv => whnf) | (refine addB_f9 ?_; conv => whnf) | (refine addB_f8 ?_; conv => whnf) | (refine addB_f7 ?_; conv => whnf) | (refine addB_f6 ?_; conv => whnf) | (refine addB_f5 ?_; conv => whnf) | (refine addB_f4 ?_; conv => whnf) | (refine addB_f3 ?_; conv => whnf) | (refine addB_f2 ?_; conv => whnf) | (refine addB_f1 ?_; conv => whnf) | (refine addB_f0 ?_; conv => whnf))
      exact ⟨congrArg V.bool (by simp), (((u0.trans u1).trans uu).ex_app u5)⟩
end Go.Proofs.YtemaeembndobaaaGreatDoor
