/- The statement ForceFalls: its contract. No condition. -/
import Derived.Test.YtemaeembndobaaaGreatDoorLi6
import Derived.Test.YtemaeembndobaaaGreatDoorCw
import Derived.Test.YtemaeembndobaaaGreatDoorUd
import Derived.Test.YtemaeembndobaaaGreatDoorDv
import Derived.Test.YtemaeembndobaaaGreatDoorFm
namespace Go.Proofs.YtemaeembndobaaaGreatDoor
open Go Go.Eng
set_option maxRecDepth 100000
set_option linter.unusedSimpArgs false
set_option linter.unusedVariables false

theorem notF_t {b : Bool} (h : b = true) : (!b) = false := by rw [h]; rfl
theorem notF_f {b : Bool} (h : b = false) : (!b) = true := by rw [h]; rfl
theorem gtF_lt {x y : Option Nat} (h1 : fgt x y = true) : flt x y = false := by
  unfold fgt at h1; unfold flt
  cases h : fcmp x y with
  | none => rfl
  | some o => rw [h] at h1; cases o <;> first | rfl | (exact absurd h1 (by decide))
theorem ltF_gt {x y : Option Nat} (h1 : flt x y = true) : fgt x y = false := by
  unfold flt at h1; unfold fgt
  cases h : fcmp x y with
  | none => rfl
  | some o => rw [h] at h1; cases o <;> first | rfl | (exact absurd h1 (by decide))
/-! ### A box that is written, deep in memory -/
theorem setB_in {M l : List Blk} {j : Nat} {c : Blk} {K : List Blk → Prop} (h : j < M.length) (hk : K (M.set j c ++ l)) : setB (M ++ l) j c K := by
  rw [setB_eq, List.set_append_left _ _ h]; exact hk
theorem getB_set {M : List Blk} {i j : Nat} {c : Blk} (h : i ≠ j) : getB (M.set j c) i = getB M i := by
  rw [getB_eq, getB_eq, List.getD_eq_getElem?_getD, List.getD_eq_getElem?_getD, List.getElem?_set, if_neg (fun e => h e.symm)]
theorem Net.set {M : List Blk} {b n j : Nat} (h : Net M b n) (hj : (getB M j).w = true) (c : Blk) : Net (M.set j c) b n := by
  have ne : ∀ i, (getB M i).w = false → i ≠ j := fun i hi e => by rw [e, hj] at hi; cases hi
  have hlt := h.lt
  exact ⟨by rw [getB_set (ne _ (by rw [h.mp]))]; exact h.mp, by rw [getB_set (ne _ (by rw [h.gr]))]; exact h.gr, by rw [getB_set (ne _ (by rw [h.ed]))]; exact h.ed, by rw [getB_set (ne _ (by rw [h.ar]))]; exact h.ar,
    by rw [getB_set (ne _ (by rw [h.bh]))]; exact h.bh, by rw [getB_set (ne _ (by rw [h.ln]))]; exact h.ln, by rw [getB_set (ne _ (by rw [h.gp]))]; exact h.gp, by rw [List.length_set]; exact hlt⟩
theorem scM_set {k : Nat} {c : Blk} (hc : c.b.sc k = true) : ∀ (M : List Blk) (j : Nat), scM k M = true → scM k (M.set j c) = true
  | [], _, h => h
  | a :: M, 0, h => by
    simp only [scM, List.set_cons_zero, Bool.and_eq_true] at h ⊢
    exact ⟨hc, h.2⟩
  | a :: M, j + 1, h => by
    simp only [scM, List.set_cons_succ, Bool.and_eq_true] at h ⊢
    exact ⟨h.1, scM_set hc M j h.2⟩
abbrev pl6 (side : Int) (p : PlF) (lim : Int) (riv : Bool) (ra : Option Addr) (rl rc : Nat) : Blk := ⟨true, .cells [I side, F p.dt, F p.gr, F p.dr, I lim, Bo riv, .raw (.slice ra rl rc)]⟩
abbrev se6 (j0 j1 j2 j3 n0 n1 n2 n3 : Nat) (sky step : Int) : Blk := ⟨true, .cells [.sl j0 0 n0, .sl j1 0 n1, .sl j2 0 n2, .sl j3 0 n3, .int .i64 sky, I step]⟩
abbrev co6 (L n0 n1 n2 n3 : Nat) (sky step : Int) : Blk := ⟨true, .cells [.sk (L + 3) 0 n0 (n0 + 9), .sk (L + 7) 0 n1 (n1 + 9), .sk (L + 9) 0 n2 (n2 + 9), .sk (L + 5) 0 n3 (n3 + 9), .int .i64 sky, I step]⟩
theorem level_lt (b : Nat) (w a : Int) : levelF b w a < 18446744073709551616 := by
  have h : ∀ c, fadd (some b) (depthF w a) = some c → c < 18446744073709551616 := fun c hc => by
    rcases num_add (some b) (depthF w a) with h | ⟨s, R, hR, h⟩
    · rw [h] at hc; cases hc
    · rw [h] at hc; injection hc with hc; subst hc; exact wd_in s hR
  unfold levelF
  rcases canon_is h with e | ⟨s, R, hR, e⟩
  · rw [e]; decide
  · rw [e]
    obtain ⟨u, hu, _⟩ := cw_word s hR
    rw [hu]; exact wd_in u hR
theorem gpE_ne {n : Nat} (hn : 1 ≤ n) (hn' : n ≤ 32) {e : Nat} {y : Ed} (hx : (edges n)[e]? = some y) : gpE n y < infR ∧ gpE n y ≠ 0 := by
  obtain ⟨c1, c1s, _⟩ := edge_of hn hx
  obtain ⟨_, a1, a2, a3⟩ := cell_parts hn c1
  exact gapS_ne hn hn' a1 a2 a3 c1s
set_option maxHeartbeats 0 in
theorem falls16_ok {M : List Blk} (hm : Top M) (hsc : scM M.length M = true) (x : Int) (side : Int) (p : PlF) (lim : Int) (riv : Bool) (ra : Option Addr) (rl rc : Nat) (hdt : p.dt < 18446744073709551616) (hgr : p.gr < 18446744073709551616) (hdr' : p.dr < 18446744073709551616) {w : Bool} {j0 j1 j2 j3 : Nat} {Be : List Nat} {Wt Tr : List Int} {Sp : List Nat} (S : SeaB M w j0 j1 j2 j3 Be Wt Tr Sp) (sky step : Int) (drag : Nat) (hdrag : drag < 18446744073709551616) :
    COk Tryz.prog 3 8 [I x, planV side p lim riv ra rl rc, seaV j0 j1 j2 j3 Be.length Wt.length Tr.length Sp.length sky step, F drag] M (Bo true) M := by
  have l0 := S.read.s0.lt
  have l1 := S.read.s1.lt
  have l2 := S.read.s2.lt
  have l3 := S.read.s3.lt
  have u0 : Up M (M ++ ([pl6 side p lim riv ra rl rc, se6 j0 j1 j2 j3 Be.length Wt.length Tr.length Sp.length sky step] : List Blk)) := Up.of hsc (by simp [scM, B.sc, scL, V.sc]; omega)
  have hlv := lives16_ok (hm.up u0) u0.sc
  have hlen0 := u0.len
  have hl2 : (M ++ ([pl6 side p lim riv ra rl rc, se6 j0 j1 j2 j3 Be.length Wt.length Tr.length Sp.length sky step] : List Blk)).length = M.length + 2 := by simp
  by_cases h : ∃ n : Nat, x = n ∧ 1 ≤ n ∧ n ≤ 32 ∧ Fit n Be.length Wt.length Tr.length Sp.length
  case neg =>
    have hno := net16_no (hm.up u0) u0.sc x (j0 := j0) (j1 := j1) (j2 := j2) (j3 := j3) (by omega) (by omega) (by omega) (by omega) sky step (fun n h1 h2 h3 h4 => h ⟨n, h1, h2, h3, h4⟩)
    refine COk_quiet Tryz.f8 Tryz.func8 (by kernel_rfl) rfl ?_
    (conv => whnf); repeat (first | (refine ⟨_, _, hlv, ?_⟩; conv => whnf) | (refine ⟨_, hlv, ?_⟩; conv => whnf) | (refine ⟨_, _, hno, ?_⟩; conv => whnf) | (refine ⟨_, hno, ?_⟩; conv => whnf) | (refine br_d (by omega) ?_; conv => whnf) | (refine br_nd (by omega) ?_; conv => whnf) | (refine br_eq (by omega) ?_; conv => whnf) | (refine br_neq (by omega) ?_; conv => whnf) | (refine br_ne (by omega) ?_; conv => whnf) | (refine br_no (bo_eqn (by omega)) ?_; conv => whnf) | (refine Or.inl ?_; conv => whnf) | (refine okS_no (by kernel_rfl) ?_; conv => whnf) | (refine okS_yes (by kernel_rfl) ?_; conv => whnf) | (refine And_of (by (conv => whnf); (rw [getB_app0]); (conv => whnf)) ?_; conv => whnf) | (refine setB_app ?_; conv => whnf) | (refine setB_app0 ?_; conv => whnf) | (rw [getB_app]; conv => whnf) | (rw [getB_app0]; conv => whnf) | (refine addB_f13 ?_; conv => whnf) | (refine addB_f12 ?_; conv => whnf) | (refine addB_f11 ?_; conv => whnf) | (refine addB_f10 ?_; conv => whnf) | (refine addB_f9 ?_; conv => whnf) | (refine addB_f8 ?_; conv => whnf) | (refine addB_f7 ?_; conv => whnf) | (refine addB_f6 ?_; conv => whnf) | (refine addB_f5 ?_; conv => whnf) | (refine addB_f4 ?_; conv => whnf) | (refine addB_f3 ?_; conv => whnf) | (refine addB_f2 ?_; conv => whnf) | (refine addB_f1 ?_; conv => whnf) | (refine addB_f0 ?_; conv => whnf))
    exact ⟨rfl, _, rfl⟩
  obtain ⟨n, rfl, hn, hn', hf⟩ := h
  obtain ⟨b, M1, hnet, hN, u1⟩ := net16_yes (j0 := j0) (j1 := j1) (j2 := j2) (j3 := j3) (hm.up u0) u0.sc hn hn' (by omega) (by omega) (by omega) (by omega) sky step hf
  have hP : ∀ y, getB (M1 ++ y) M.length = pl6 side p lim riv ra rl rc := fun y => by
    obtain ⟨z, rfl⟩ := u1.ex
    exact getB_in (getB_in getB_app0 rfl) rfl
  have hS : ∀ y, getB (M1 ++ y) (M.length + 1) = se6 j0 j1 j2 j3 Be.length Wt.length Tr.length Sp.length sky step := fun y => by
    obtain ⟨z, rfl⟩ := u1.ex
    exact getB_in (getB_in (getB_app 1) rfl) rfl
  have hP0 := hP []
  have hS0 := hS []
  rw [List.append_nil] at hP0 hS0
  have hlen := u1.len
  have hb := hN.lt
  have hel := edges_len hn
  have hsq : n * n ≤ 1024 := Nat.mul_le_mul hn' hn'
  have q0 := hf.a
  have q1 := hf.b
  have q2 := hf.c
  have hsp := hf.d
  by_cases c1 : fge (some p.gr) (some 0) = true
  case neg =>
    have c1 := Bool.eq_false_iff.2 c1
    have kc1 := notF_f c1
    refine COk_quiet Tryz.f8 Tryz.func8 (by kernel_rfl) rfl ?_
    (conv => whnf); repeat (first | (refine ⟨_, _, hlv, ?_⟩; conv => whnf) | (refine ⟨_, hlv, ?_⟩; conv => whnf) | (refine ⟨_, _, hnet, ?_⟩; conv => whnf) | (refine ⟨_, hnet, ?_⟩; conv => whnf) | (rw [hP0]; conv => whnf) | (refine br_no c1 ?_; conv => whnf) | (refine br_yes kc1 ?_; conv => whnf) | (refine br_d (by omega) ?_; conv => whnf) | (refine br_nd (by omega) ?_; conv => whnf) | (refine br_eq (by omega) ?_; conv => whnf) | (refine br_neq (by omega) ?_; conv => whnf) | (refine br_ne (by omega) ?_; conv => whnf) | (refine br_no (bo_eqn (by omega)) ?_; conv => whnf) | (refine Or.inl ?_; conv => whnf) | (refine okS_no (by kernel_rfl) ?_; conv => whnf) | (refine okS_yes (by kernel_rfl) ?_; conv => whnf) | (refine And_of (by (conv => whnf); (rw [getB_app0]); (conv => whnf)) ?_; conv => whnf) | (refine setB_app ?_; conv => whnf) | (refine setB_app0 ?_; conv => whnf) | (rw [getB_app]; conv => whnf) | (rw [getB_app0]; conv => whnf) | (refine addB_f13 ?_; conv => whnf) | (refine addB_f12 ?_; conv => whnf) | (refine addB_f11 ?_; conv => whnf) | (refine addB_f10 ?_; conv => whnf) | (refine addB_f9 ?_; conv => whnf) | (refine addB_f8 ?_; conv => whnf) | (refine addB_f7 ?_; conv => whnf) | (refine addB_f6 ?_; conv => whnf) | (refine addB_f5 ?_; conv => whnf) | (refine addB_f4 ?_; conv => whnf) | (refine addB_f3 ?_; conv => whnf) | (refine addB_f2 ?_; conv => whnf) | (refine addB_f1 ?_; conv => whnf) | (refine addB_f0 ?_; conv => whnf))
    exact ⟨rfl, (u0.trans u1).ex⟩
  have kc1 := notF_t c1
  by_cases c2 : fle (some p.gr) (some 4652218415073722368) = true
  case neg =>
    have c2 := Bool.eq_false_iff.2 c2
    have kc2 := notF_f c2
    refine COk_quiet Tryz.f8 Tryz.func8 (by kernel_rfl) rfl ?_
    (conv => whnf); repeat (first | (refine ⟨_, _, hlv, ?_⟩; conv => whnf) | (refine ⟨_, hlv, ?_⟩; conv => whnf) | (refine ⟨_, _, hnet, ?_⟩; conv => whnf) | (refine ⟨_, hnet, ?_⟩; conv => whnf) | (rw [hP0]; conv => whnf) | (refine br_yes c1 ?_; conv => whnf) | (refine br_no kc1 ?_; conv => whnf) | (refine br_no c2 ?_; conv => whnf) | (refine br_yes kc2 ?_; conv => whnf) | (refine br_d (by omega) ?_; conv => whnf) | (refine br_nd (by omega) ?_; conv => whnf) | (refine br_eq (by omega) ?_; conv => whnf) | (refine br_neq (by omega) ?_; conv => whnf) | (refine br_ne (by omega) ?_; conv => whnf) | (refine br_no (bo_eqn (by omega)) ?_; conv => whnf) | (refine Or.inl ?_; conv => whnf) | (refine okS_no (by kernel_rfl) ?_; conv => whnf) | (refine okS_yes (by kernel_rfl) ?_; conv => whnf) | (refine And_of (by (conv => whnf); (rw [getB_app0]); (conv => whnf)) ?_; conv => whnf) | (refine setB_app ?_; conv => whnf) | (refine setB_app0 ?_; conv => whnf) | (rw [getB_app]; conv => whnf) | (rw [getB_app0]; conv => whnf) | (refine addB_f13 ?_; conv => whnf) | (refine addB_f12 ?_; conv => whnf) | (refine addB_f11 ?_; conv => whnf) | (refine addB_f10 ?_; conv => whnf) | (refine addB_f9 ?_; conv => whnf) | (refine addB_f8 ?_; conv => whnf) | (refine addB_f7 ?_; conv => whnf) | (refine addB_f6 ?_; conv => whnf) | (refine addB_f5 ?_; conv => whnf) | (refine addB_f4 ?_; conv => whnf) | (refine addB_f3 ?_; conv => whnf) | (refine addB_f2 ?_; conv => whnf) | (refine addB_f1 ?_; conv => whnf) | (refine addB_f0 ?_; conv => whnf))
    exact ⟨rfl, (u0.trans u1).ex⟩
  have kc2 := notF_t c2
  by_cases c3 : fgt (some p.dt) (some 0) = true
  case neg =>
    have c3 := Bool.eq_false_iff.2 c3
    have kc3 := notF_f c3
    refine COk_quiet Tryz.f8 Tryz.func8 (by kernel_rfl) rfl ?_
    (conv => whnf); repeat (first | (refine ⟨_, _, hlv, ?_⟩; conv => whnf) | (refine ⟨_, hlv, ?_⟩; conv => whnf) | (refine ⟨_, _, hnet, ?_⟩; conv => whnf) | (refine ⟨_, hnet, ?_⟩; conv => whnf) | (rw [hP0]; conv => whnf) | (refine br_yes c1 ?_; conv => whnf) | (refine br_no kc1 ?_; conv => whnf) | (refine br_yes c2 ?_; conv => whnf) | (refine br_no kc2 ?_; conv => whnf) | (refine br_no c3 ?_; conv => whnf) | (refine br_yes kc3 ?_; conv => whnf) | (refine br_d (by omega) ?_; conv => whnf) | (refine br_nd (by omega) ?_; conv => whnf) | (refine br_eq (by omega) ?_; conv => whnf) | (refine br_neq (by omega) ?_; conv => whnf) | (refine br_ne (by omega) ?_; conv => whnf) | (refine br_no (bo_eqn (by omega)) ?_; conv => whnf) | (refine Or.inl ?_; conv => whnf) | (refine okS_no (by kernel_rfl) ?_; conv => whnf) | (refine okS_yes (by kernel_rfl) ?_; conv => whnf) | (refine And_of (by (conv => whnf); (rw [getB_app0]); (conv => whnf)) ?_; conv => whnf) | (refine setB_app ?_; conv => whnf) | (refine setB_app0 ?_; conv => whnf) | (rw [getB_app]; conv => whnf) | (rw [getB_app0]; conv => whnf) | (refine addB_f13 ?_; conv => whnf) | (refine addB_f12 ?_; conv => whnf) | (refine addB_f11 ?_; conv => whnf) | (refine addB_f10 ?_; conv => whnf) | (refine addB_f9 ?_; conv => whnf) | (refine addB_f8 ?_; conv => whnf) | (refine addB_f7 ?_; conv => whnf) | (refine addB_f6 ?_; conv => whnf) | (refine addB_f5 ?_; conv => whnf) | (refine addB_f4 ?_; conv => whnf) | (refine addB_f3 ?_; conv => whnf) | (refine addB_f2 ?_; conv => whnf) | (refine addB_f1 ?_; conv => whnf) | (refine addB_f0 ?_; conv => whnf))
    exact ⟨rfl, (u0.trans u1).ex⟩
  have kc3 := notF_t c3
  by_cases c4 : fle (some p.dt) (some 4652218415073722368) = true
  case neg =>
    have c4 := Bool.eq_false_iff.2 c4
    have kc4 := notF_f c4
    refine COk_quiet Tryz.f8 Tryz.func8 (by kernel_rfl) rfl ?_
    (conv => whnf); repeat (first | (refine ⟨_, _, hlv, ?_⟩; conv => whnf) | (refine ⟨_, hlv, ?_⟩; conv => whnf) | (refine ⟨_, _, hnet, ?_⟩; conv => whnf) | (refine ⟨_, hnet, ?_⟩; conv => whnf) | (rw [hP0]; conv => whnf) | (refine br_yes c1 ?_; conv => whnf) | (refine br_no kc1 ?_; conv => whnf) | (refine br_yes c2 ?_; conv => whnf) | (refine br_no kc2 ?_; conv => whnf) | (refine br_yes c3 ?_; conv => whnf) | (refine br_no kc3 ?_; conv => whnf) | (refine br_no c4 ?_; conv => whnf) | (refine br_yes kc4 ?_; conv => whnf) | (refine br_d (by omega) ?_; conv => whnf) | (refine br_nd (by omega) ?_; conv => whnf) | (refine br_eq (by omega) ?_; conv => whnf) | (refine br_neq (by omega) ?_; conv => whnf) | (refine br_ne (by omega) ?_; conv => whnf) | (refine br_no (bo_eqn (by omega)) ?_; conv => whnf) | (refine Or.inl ?_; conv => whnf) | (refine okS_no (by kernel_rfl) ?_; conv => whnf) | (refine okS_yes (by kernel_rfl) ?_; conv => whnf) | (refine And_of (by (conv => whnf); (rw [getB_app0]); (conv => whnf)) ?_; conv => whnf) | (refine setB_app ?_; conv => whnf) | (refine setB_app0 ?_; conv => whnf) | (rw [getB_app]; conv => whnf) | (rw [getB_app0]; conv => whnf) | (refine addB_f13 ?_; conv => whnf) | (refine addB_f12 ?_; conv => whnf) | (refine addB_f11 ?_; conv => whnf) | (refine addB_f10 ?_; conv => whnf) | (refine addB_f9 ?_; conv => whnf) | (refine addB_f8 ?_; conv => whnf) | (refine addB_f7 ?_; conv => whnf) | (refine addB_f6 ?_; conv => whnf) | (refine addB_f5 ?_; conv => whnf) | (refine addB_f4 ?_; conv => whnf) | (refine addB_f3 ?_; conv => whnf) | (refine addB_f2 ?_; conv => whnf) | (refine addB_f1 ?_; conv => whnf) | (refine addB_f0 ?_; conv => whnf))
    exact ⟨rfl, (u0.trans u1).ex⟩
  have kc4 := notF_t c4
  by_cases c5 : fge (some drag) (some 0) = true
  case neg =>
    have c5 := Bool.eq_false_iff.2 c5
    have kc5 := notF_f c5
    refine COk_quiet Tryz.f8 Tryz.func8 (by kernel_rfl) rfl ?_
    (conv => whnf); repeat (first | (refine ⟨_, _, hlv, ?_⟩; conv => whnf) | (refine ⟨_, hlv, ?_⟩; conv => whnf) | (refine ⟨_, _, hnet, ?_⟩; conv => whnf) | (refine ⟨_, hnet, ?_⟩; conv => whnf) | (rw [hP0]; conv => whnf) | (refine br_yes c1 ?_; conv => whnf) | (refine br_no kc1 ?_; conv => whnf) | (refine br_yes c2 ?_; conv => whnf) | (refine br_no kc2 ?_; conv => whnf) | (refine br_yes c3 ?_; conv => whnf) | (refine br_no kc3 ?_; conv => whnf) | (refine br_yes c4 ?_; conv => whnf) | (refine br_no kc4 ?_; conv => whnf) | (refine br_no c5 ?_; conv => whnf) | (refine br_yes kc5 ?_; conv => whnf) | (refine br_d (by omega) ?_; conv => whnf) | (refine br_nd (by omega) ?_; conv => whnf) | (refine br_eq (by omega) ?_; conv => whnf) | (refine br_neq (by omega) ?_; conv => whnf) | (refine br_ne (by omega) ?_; conv => whnf) | (refine br_no (bo_eqn (by omega)) ?_; conv => whnf) | (refine Or.inl ?_; conv => whnf) | (refine okS_no (by kernel_rfl) ?_; conv => whnf) | (refine okS_yes (by kernel_rfl) ?_; conv => whnf) | (refine And_of (by (conv => whnf); (rw [getB_app0]); (conv => whnf)) ?_; conv => whnf) | (refine setB_app ?_; conv => whnf) | (refine setB_app0 ?_; conv => whnf) | (rw [getB_app]; conv => whnf) | (rw [getB_app0]; conv => whnf) | (refine addB_f13 ?_; conv => whnf) | (refine addB_f12 ?_; conv => whnf) | (refine addB_f11 ?_; conv => whnf) | (refine addB_f10 ?_; conv => whnf) | (refine addB_f9 ?_; conv => whnf) | (refine addB_f8 ?_; conv => whnf) | (refine addB_f7 ?_; conv => whnf) | (refine addB_f6 ?_; conv => whnf) | (refine addB_f5 ?_; conv => whnf) | (refine addB_f4 ?_; conv => whnf) | (refine addB_f3 ?_; conv => whnf) | (refine addB_f2 ?_; conv => whnf) | (refine addB_f1 ?_; conv => whnf) | (refine addB_f0 ?_; conv => whnf))
    exact ⟨rfl, (u0.trans u1).ex⟩
  have kc5 := notF_t c5
  by_cases c6 : fle (some drag) (some 4652218415073722368) = true
  case neg =>
    have c6 := Bool.eq_false_iff.2 c6
    have kc6 := notF_f c6
    refine COk_quiet Tryz.f8 Tryz.func8 (by kernel_rfl) rfl ?_
    (conv => whnf); repeat (first | (refine ⟨_, _, hlv, ?_⟩; conv => whnf) | (refine ⟨_, hlv, ?_⟩; conv => whnf) | (refine ⟨_, _, hnet, ?_⟩; conv => whnf) | (refine ⟨_, hnet, ?_⟩; conv => whnf) | (rw [hP0]; conv => whnf) | (refine br_yes c1 ?_; conv => whnf) | (refine br_no kc1 ?_; conv => whnf) | (refine br_yes c2 ?_; conv => whnf) | (refine br_no kc2 ?_; conv => whnf) | (refine br_yes c3 ?_; conv => whnf) | (refine br_no kc3 ?_; conv => whnf) | (refine br_yes c4 ?_; conv => whnf) | (refine br_no kc4 ?_; conv => whnf) | (refine br_yes c5 ?_; conv => whnf) | (refine br_no kc5 ?_; conv => whnf) | (refine br_no c6 ?_; conv => whnf) | (refine br_yes kc6 ?_; conv => whnf) | (refine br_d (by omega) ?_; conv => whnf) | (refine br_nd (by omega) ?_; conv => whnf) | (refine br_eq (by omega) ?_; conv => whnf) | (refine br_neq (by omega) ?_; conv => whnf) | (refine br_ne (by omega) ?_; conv => whnf) | (refine br_no (bo_eqn (by omega)) ?_; conv => whnf) | (refine Or.inl ?_; conv => whnf) | (refine okS_no (by kernel_rfl) ?_; conv => whnf) | (refine okS_yes (by kernel_rfl) ?_; conv => whnf) | (refine And_of (by (conv => whnf); (rw [getB_app0]); (conv => whnf)) ?_; conv => whnf) | (refine setB_app ?_; conv => whnf) | (refine setB_app0 ?_; conv => whnf) | (rw [getB_app]; conv => whnf) | (rw [getB_app0]; conv => whnf) | (refine addB_f13 ?_; conv => whnf) | (refine addB_f12 ?_; conv => whnf) | (refine addB_f11 ?_; conv => whnf) | (refine addB_f10 ?_; conv => whnf) | (refine addB_f9 ?_; conv => whnf) | (refine addB_f8 ?_; conv => whnf) | (refine addB_f7 ?_; conv => whnf) | (refine addB_f6 ?_; conv => whnf) | (refine addB_f5 ?_; conv => whnf) | (refine addB_f4 ?_; conv => whnf) | (refine addB_f3 ?_; conv => whnf) | (refine addB_f2 ?_; conv => whnf) | (refine addB_f1 ?_; conv => whnf) | (refine addB_f0 ?_; conv => whnf))
    exact ⟨rfl, (u0.trans u1).ex⟩
  have kc6 := notF_t c6

  obtain ⟨D, hD, D0, D1⟩ := gt0_is hdt c3
  have D2 : D < infR := by
    have e2 : fle (some (wd false D)) (some 4652218415073722368) = _ := fle_rk false false D1 top_inf
    rw [wd_false, ← hD, c4, hD] at e2
    have := of_decide_eq_true e2.symm
    have hi := infR_eq
    unfold rk at this
    simp at this; omega
  have sdt : Sg false (some p.dt) := .inr ⟨false, D, D1, by rw [hD]; rfl, .inl rfl⟩
  have sg := Sg_mul (range_of hgr c1 c2).1 sdt
  have sd := Sg_mul (range_of hdrag c5 c6).1 sdt
  have T0 := S.up (u0.trans u1)
  have S1 := T0.read
  have hcop := copied16_ok u1.sc T0 (by omega) (by omega) (by omega) (by omega) sky step
  have hcop : COk Tryz.prog 3 28 [seaV j0 j1 j2 j3 Be.length Wt.length Tr.length Sp.length sky step] M1 (.agg [.sk (M1.length + 3) 0 Be.length (Be.length + 9), .sk (M1.length + 7) 0 Wt.length (Wt.length + 9), .sk (M1.length + 9) 0 Tr.length (Tr.length + 9), .sk (M1.length + 5) 0 Sp.length (Sp.length + 9), .int .i64 sky, I step])
      (M1 ++ (cpL M1.length j0 j1 j2 j3 Be.length Wt.length Tr.length Sp.length sky step Be Wt Tr Sp)) := hcop
  have hscm : ∀ (Z' : List Nat), scM (M1 ++ (cpL M1.length j0 j1 j2 j3 Be.length Wt.length Tr.length Sp.length sky step Be Wt Tr Z' ++ ([co6 M1.length Be.length Wt.length Tr.length Sp.length sky step] : List Blk))).length (M1 ++ (cpL M1.length j0 j1 j2 j3 Be.length Wt.length Tr.length Sp.length sky step Be Wt Tr Z' ++ ([co6 M1.length Be.length Wt.length Tr.length Sp.length sky step] : List Blk))) = true := fun Z' => scM_app (scM_mono (by simp) _ u1.sc) (by simp [scM, B.sc, scL, V.sc]; omega)
  refine COk_quiet Tryz.f8 Tryz.func8 (by kernel_rfl) rfl ?_
  (conv => whnf); repeat (first | (refine ⟨_, _, hlv, ?_⟩; conv => whnf) | (refine ⟨_, hlv, ?_⟩; conv => whnf) | (refine ⟨_, _, hnet, ?_⟩; conv => whnf) | (refine ⟨_, hnet, ?_⟩; conv => whnf) | (rw [hP0]; conv => whnf) | (rw [hS0]; conv => whnf) | (refine br_yes c1 ?_; conv => whnf) | (refine br_no kc1 ?_; conv => whnf) | (refine br_yes c2 ?_; conv => whnf) | (refine br_no kc2 ?_; conv => whnf) | (refine br_yes c3 ?_; conv => whnf) | (refine br_no kc3 ?_; conv => whnf) | (refine br_yes c4 ?_; conv => whnf) | (refine br_no kc4 ?_; conv => whnf) | (refine br_yes c5 ?_; conv => whnf) | (refine br_no kc5 ?_; conv => whnf) | (refine br_yes c6 ?_; conv => whnf) | (refine br_no kc6 ?_; conv => whnf) | (refine ⟨_, _, hcop, ?_⟩; conv => whnf) | (refine ⟨_, hcop, ?_⟩; conv => whnf) | (refine br_d (by omega) ?_; conv => whnf) | (refine br_nd (by omega) ?_; conv => whnf) | (refine br_eq (by omega) ?_; conv => whnf) | (refine br_neq (by omega) ?_; conv => whnf) | (refine br_ne (by omega) ?_; conv => whnf) | (refine br_no (bo_eqn (by omega)) ?_; conv => whnf) | (refine Or.inl ?_; conv => whnf) | (refine okS_no (by kernel_rfl) ?_; conv => whnf) | (refine okS_yes (by kernel_rfl) ?_; conv => whnf) | (refine And_of (by (conv => whnf); (rw [getB_app0]); (conv => whnf)) ?_; conv => whnf) | (refine setB_app ?_; conv => whnf) | (refine setB_app0 ?_; conv => whnf) | (rw [getB_app]; conv => whnf) | (rw [getB_app0]; conv => whnf) | (refine addB_f13 ?_; conv => whnf) | (refine addB_f12 ?_; conv => whnf) | (refine addB_f11 ?_; conv => whnf) | (refine addB_f10 ?_; conv => whnf) | (refine addB_f9 ?_; conv => whnf) | (refine addB_f8 ?_; conv => whnf) | (refine addB_f7 ?_; conv => whnf) | (refine addB_f6 ?_; conv => whnf) | (refine addB_f5 ?_; conv => whnf) | (refine addB_f4 ?_; conv => whnf) | (refine addB_f3 ?_; conv => whnf) | (refine addB_f2 ?_; conv => whnf) | (refine addB_f1 ?_; conv => whnf) | (refine addB_f0 ?_; conv => whnf))
  refine loop_to (fun c => [.any, .any, .any, F drag, .any, .ptr M.length 0, .ptr (M.length + 1) 0, .any, .any, .ptr (b + 1) 0, .ptr (M1.length + 11) 0, I c, .any, .any, .any, .any, .any, .any, .any, .any, .any, .any, .any, .any, .any, .any, .any, .any, .any, .any, .any, .any, .any, .any, .any, .any, .any, .any, .any, .any, .any, .any, .any, .any, .any, .any, .any, .any, .any, .any, .any, .any, .any, .any, .any, .any, .any, .any, .any, .any, .any, .any, .any, .any, .any, .any, .any, .any, .any, .any, .any, .any, .any, .any, .any, .any, .any, .any, .any, .any, .any, .any, .any, .any, .any, .any, .any, .any, .any, .any, .any, .any, .any, .any, .any, .any, .any, .any, .any, .any, .any, .any, .any, .any, .any, .any, .any, .any, .any, .any, .any, .any, .any, .any, .any, .any, .any, .any, .any, .any, .any, .any, .any, .any, .any, .any, .any, .any, .any, .any, .any, .any, .any, .any, .any, .any, .any, .any, .any, .any, .any, .any, .any, .any, .any, .any, .any, .any, .any, .any, .any, .any, .any, .any, .any, .any, .any, .any, .any, .any, .any, .any, .any, .any, .any, .any, .any, .any]) (fun c => M1 ++ (cpL M1.length j0 j1 j2 j3 Be.length Wt.length Tr.length Sp.length sky step Be Wt Tr (updT 0 Sp (fun _ => true) (fun _ => 0) c) ++ ([co6 M1.length Be.length Wt.length Tr.length Sp.length sky step] : List Blk))) 0 Sp.length (Nat.zero_le _) ?_ ?_ ?_
  · refine Fg.of [] ?_ (by rw [List.append_nil, upd_0]; try rfl) (by simp) (by (simp [scL, V.sc]) <;> omega) (hscm _)
    conv => whnf
    exact ⟨rfl, rfl, rfl, rfl, rfl, rfl, rfl⟩
  · intro c _ hc
    have eS : (cpF (updT 0 Sp (fun _ => true) (fun _ => 0) c)).set (0 + c * 1) 0 = cpF (updT 0 Sp (fun _ => true) (fun _ => 0) (c + 1)) := (cpF_set (by rw [upd_len]; omega)).trans (congrArg cpF (upd_set (G := fun _ => (0 : Nat)) rfl))
    (conv => whnf); repeat (first | (refine br_yes (cpF_blt (by (rw [upd_len]); omega)) ?_; conv => whnf) | (refine put_at (blkF eS) ?_; conv => whnf) | (refine br_d (by omega) ?_; conv => whnf) | (refine br_nd (by omega) ?_; conv => whnf) | (refine br_eq (by omega) ?_; conv => whnf) | (refine br_neq (by omega) ?_; conv => whnf) | (refine br_ne (by omega) ?_; conv => whnf) | (refine br_no (bo_eqn (by omega)) ?_; conv => whnf) | (refine Or.inl ?_; conv => whnf) | (refine okS_no (by kernel_rfl) ?_; conv => whnf) | (refine okS_yes (by kernel_rfl) ?_; conv => whnf) | (refine And_of (by (conv => whnf); (rw [getB_app0]); (conv => whnf)) ?_; conv => whnf) | (refine setB_app ?_; conv => whnf) | (refine setB_app0 ?_; conv => whnf) | (rw [getB_app]; conv => whnf) | (rw [getB_app0]; conv => whnf) | (refine addB_f13 ?_; conv => whnf) | (refine addB_f12 ?_; conv => whnf) | (refine addB_f11 ?_; conv => whnf) | (refine addB_f10 ?_; conv => whnf) | (refine addB_f9 ?_; conv => whnf) | (refine addB_f8 ?_; conv => whnf) | (refine addB_f7 ?_; conv => whnf) | (refine addB_f6 ?_; conv => whnf) | (refine addB_f5 ?_; conv => whnf) | (refine addB_f4 ?_; conv => whnf) | (refine addB_f3 ?_; conv => whnf) | (refine addB_f2 ?_; conv => whnf) | (refine addB_f1 ?_; conv => whnf) | (refine addB_f0 ?_; conv => whnf))
    refine Fg.of [] ?_ (by rw [List.append_nil]; try rfl) (by simp) (by (simp [scL, V.sc]) <;> omega) (hscm _)
    conv => whnf
    exact ⟨rfl, rfl, rfl, rfl, rfl, wrapKL (by omega), rfl⟩
  · (conv => whnf); repeat (first | (rw [hP]; conv => whnf) | (refine setB_in (by omega) ?_; conv => whnf) | (refine br_d (by omega) ?_; conv => whnf) | (refine br_nd (by omega) ?_; conv => whnf) | (refine br_eq (by omega) ?_; conv => whnf) | (refine br_neq (by omega) ?_; conv => whnf) | (refine br_ne (by omega) ?_; conv => whnf) | (refine br_no (bo_eqn (by omega)) ?_; conv => whnf) | (refine Or.inl ?_; conv => whnf) | (refine okS_no (by kernel_rfl) ?_; conv => whnf) | (refine okS_yes (by kernel_rfl) ?_; conv => whnf) | (refine And_of (by (conv => whnf); (rw [getB_app0]); (conv => whnf)) ?_; conv => whnf) | (refine setB_app ?_; conv => whnf) | (refine setB_app0 ?_; conv => whnf) | (rw [getB_app]; conv => whnf) | (rw [getB_app0]; conv => whnf) | (refine addB_f13 ?_; conv => whnf) | (refine addB_f12 ?_; conv => whnf) | (refine addB_f11 ?_; conv => whnf) | (refine addB_f10 ?_; conv => whnf) | (refine addB_f9 ?_; conv => whnf) | (refine addB_f8 ?_; conv => whnf) | (refine addB_f7 ?_; conv => whnf) | (refine addB_f6 ?_; conv => whnf) | (refine addB_f5 ?_; conv => whnf) | (refine addB_f4 ?_; conv => whnf) | (refine addB_f3 ?_; conv => whnf) | (refine addB_f2 ?_; conv => whnf) | (refine addB_f1 ?_; conv => whnf) | (refine addB_f0 ?_; conv => whnf))
    generalize hSx : updT 0 Sp (fun _ => true) (fun _ => 0) Sp.length = Sx
    have lS : Sx.length = Sp.length := by rw [← hSx]; exact upd_len _ _ _ _ _
    have hZx : ∀ i, i < Sp.length → Sx.getD i 0 = 0 := fun i hi => by
      rw [← hSx]; unfold updT; rw [tab_get hi, if_pos ⟨hi, rfl⟩]
    obtain ⟨M', hM'⟩ : ∃ M', M' = M1.set M.length (pl6 side ⟨p.dt, p.gr, 0⟩ lim riv ra rl rc) := ⟨_, rfl⟩
    have eL : M1.length = M'.length := by rw [hM', List.length_set]
    rw [← hM', eL]
    have N' : Net M' b n := by rw [hM']; exact hN.set (by rw [hP0]) _
    have T' : SeaB M' w j0 j1 j2 j3 Be Wt Tr Sp := by
      rw [hM']
      exact ⟨by rw [getB_set (by omega)]; exact T0.b0, by rw [getB_set (by omega)]; exact T0.b1, by rw [getB_set (by omega)]; exact T0.b2, by rw [getB_set (by omega)]; exact T0.b3, T0.f0, T0.f1, T0.f2, T0.f3, T0.l0, T0.l1, T0.l2, T0.l3⟩
    have gP : getB M' M.length = pl6 side ⟨p.dt, p.gr, 0⟩ lim riv ra rl rc := by
      rw [hM', getB_eq, List.getD_eq_getElem?_getD, List.getElem?_set, if_pos rfl, if_pos (by omega)]; rfl
    have gS : getB M' (M.length + 1) = se6 j0 j1 j2 j3 Be.length Wt.length Tr.length Sp.length sky step := by
      rw [hM', getB_set (by omega)]; exact hS0
    have sc' : scM M'.length M' = true := by
      rw [hM', List.length_set]
      exact scM_set (by simp [B.sc, scL, V.sc]) _ _ u1.sc
    have ex' : ∃ y, M' = M ++ y := by
      obtain ⟨y, hy⟩ := u1.ex
      rw [hM', hy, List.append_assoc, List.set_append_right _ _ (Nat.le_refl _)]
      exact ⟨_, rfl⟩
    (conv => whnf); repeat (first | (refine br_d (by omega) ?_; conv => whnf) | (refine br_nd (by omega) ?_; conv => whnf) | (refine br_eq (by omega) ?_; conv => whnf) | (refine br_neq (by omega) ?_; conv => whnf) | (refine br_ne (by omega) ?_; conv => whnf) | (refine br_no (bo_eqn (by omega)) ?_; conv => whnf) | (refine Or.inl ?_; conv => whnf) | (refine okS_no (by kernel_rfl) ?_; conv => whnf) | (refine okS_yes (by kernel_rfl) ?_; conv => whnf) | (refine And_of (by (conv => whnf); (rw [getB_app0]); (conv => whnf)) ?_; conv => whnf) | (refine setB_app ?_; conv => whnf) | (refine setB_app0 ?_; conv => whnf) | (rw [getB_app]; conv => whnf) | (rw [getB_app0]; conv => whnf) | (refine addB_f13 ?_; conv => whnf) | (refine addB_f12 ?_; conv => whnf) | (refine addB_f11 ?_; conv => whnf) | (refine addB_f10 ?_; conv => whnf) | (refine addB_f9 ?_; conv => whnf) | (refine addB_f8 ?_; conv => whnf) | (refine addB_f7 ?_; conv => whnf) | (refine addB_f6 ?_; conv => whnf) | (refine addB_f5 ?_; conv => whnf) | (refine addB_f4 ?_; conv => whnf) | (refine addB_f3 ?_; conv => whnf) | (refine addB_f2 ?_; conv => whnf) | (refine addB_f1 ?_; conv => whnf) | (refine addB_f0 ?_; conv => whnf))
    obtain ⟨M4, hM4⟩ : ∃ M4, M4 = M' ++ (cpL M'.length j0 j1 j2 j3 Be.length Wt.length Tr.length Sp.length sky step Be Wt Tr Sx ++ ([co6 M'.length Be.length Wt.length Tr.length Sp.length sky step, pl6 side ⟨p.dt, p.gr, drag⟩ lim riv ra rl rc] : List Blk)) := ⟨_, rfl⟩
    have sc4 : scM M4.length M4 = true := by
      rw [hM4]; exact scM_app (scM_mono (by simp) _ sc') (by simp [scM, B.sc, scL, V.sc]; omega)
    have N4 : Net M4 b n := by rw [hM4]; exact N'.more _
    have S4 : SeaR M4 j0 j1 j2 j3 Be Wt Tr Sp := by rw [hM4]; exact (T'.app _).read
    have kP0 : getB M4 M.length = pl6 side ⟨p.dt, p.gr, 0⟩ lim riv ra rl rc := by rw [hM4]; exact getB_in gP rfl
    have kS0 : getB M4 (M.length + 1) = se6 j0 j1 j2 j3 Be.length Wt.length Tr.length Sp.length sky step := by rw [hM4]; exact getB_in gS rfl
    have kT0 : getB M4 (M'.length + 11) = co6 M'.length Be.length Wt.length Tr.length Sp.length sky step := by rw [hM4]; exact getB_app 11
    have kQ0 : getB M4 (M'.length + 12) = pl6 side ⟨p.dt, p.gr, drag⟩ lim riv ra rl rc := by rw [hM4]; exact getB_app 12
    have kP : ∀ z, getB (M4 ++ z) M.length = _ := fun z => getB_in kP0 rfl
    have kS : ∀ z, getB (M4 ++ z) (M.length + 1) = _ := fun z => getB_in kS0 rfl
    have kT : ∀ z, getB (M4 ++ z) (M'.length + 11) = _ := fun z => getB_in kT0 rfl
    have kQ : ∀ z, getB (M4 ++ z) (M'.length + 12) = _ := fun z => getB_in kQ0 rfl
    have hS3 : SeaR M4 (M'.length + 3) (M'.length + 7) (M'.length + 9) (M'.length + 5) Be Wt Tr Sx := by
      rw [hM4]
      exact ⟨cop_F (getB_app 3) S1.s0.wf (by omega), cop_I (getB_app 7) S1.s1.wf (by omega), cop_I (getB_app 9) S1.s2.wf (by omega),
        cop_F (getB_app 5) (fun i hi => by rw [hZx i (by omega)]; decide) (by omega)⟩
    have hf3 : Fit n Be.length Wt.length Tr.length Sx.length := by rw [lS]; exact hf
    have e4 : M4.length = M'.length + 13 := by rw [hM4]; simp
    obtain ⟨y4, hy4⟩ : ∃ y, M4 = M ++ y := by
      obtain ⟨y, hy⟩ := ex'
      exact ⟨_, by rw [hM4, hy, List.append_assoc]⟩
    refine loop_to (fun c => [.any, .any, .any, .any, .any, .ptr M.length 0, .ptr (M.length + 1) 0, .any, .any, .ptr (b + 1) 0, .ptr (M'.length + 11) 0, .any, .ptr (M'.length + 12) 0, I c, .any, .any, .any, .any, .any, .any, .any, .any, .any, .any, .any, .any, .any, .any, .any, .any, .any, .any, .any, .any, .any, .any, .any, .any, .any, .any, .any, .any, .any, .any, .any, .any, .any, .any, .any, .any, .any, .any, .any, .any, .any, .any, .any, .any, .any, .any, .any, .any, .any, .any, .any, .any, .any, .any, .any, .any, .any, .any, .any, .any, .any, .any, .any, .any, .any, .any, .any, .any, .any, .any, .any, .any, .any, .any, .any, .any, .any, .any, .any, .any, .any, .any, .any, .any, .any, .any, .any, .any, .any, .any, .any, .any, .any, .any, .any, .any, .any, .any, .any, .any, .any, .any, .any, .any, .any, .any, .any, .any, .any, .any, .any, .any, .any, .any, .any, .any, .any, .any, .any, .any, .any, .any, .any, .any, .any, .any, .any, .any, .any, .any, .any, .any, .any, .any, .any, .any, .any, .any, .any, .any, .any, .any, .any, .any, .any, .any, .any, .any, .any, .any, .any, .any, .any, .any]) (fun c => M4) 0 Sp.length (Nat.zero_le _) ?_ ?_ ?_
    · refine Fg.of [] ?_ (by rw [List.append_nil, hM4]; rfl) (by simp; omega) (by (simp [scL, V.sc, e4]) <;> omega) sc4
      conv => whnf
      exact ⟨rfl, rfl, rfl, rfl, rfl, rfl, rfl⟩
    · intro c _ hc
      have hx := List.getElem?_eq_getElem (l := edges n) (show c < (edges n).length by omega)
      generalize (edges n)[c] = y at hx
      obtain ⟨c1', _, _, c2', _⟩ := edge_of hn hx
      have hgp := gpE_ne hn hn' hx
      have hsU := fun z => sk_4 (k0 := Be.length + 9) (k1 := Wt.length + 9) (k2 := Tr.length + 9) (k3 := Sp.length + 9) (Speed_ok (N := N4.more z) (S := hS3.app z) sky step hf3 side ⟨p.dt, p.gr, 0⟩ lim riv ra rl rc hn hx)
      have hsV := fun z => sk_4 (k0 := Be.length + 9) (k1 := Wt.length + 9) (k2 := Tr.length + 9) (k3 := Sp.length + 9) (Speed_ok (N := N4.more z) (S := hS3.app z) sky step hf3 side ⟨p.dt, p.gr, drag⟩ lim riv ra rl rc hn hx)
      rw [lS] at hsU hsV
      obtain ⟨pl1, pl2⟩ := falls_plain (p := ⟨p.dt, p.gr, 0⟩) (q := ⟨p.dt, p.gr, drag⟩) (l := lk n Be Wt y.1) (r := lk n Be Wt y.2.2.1) (gap := gpE n y) (D := D) (level_lt _ _ _) (level_lt _ _ _) rfl rfl rfl hD D2 sg sd (by omega) hgp.1
      have eU : speedE n ⟨p.dt, p.gr, 0⟩ Be Wt Sx c y = speedL ⟨p.dt, p.gr, 0⟩ (lk n Be Wt y.1) (lk n Be Wt y.2.2.1) (gpE n y) 0 := by unfold speedE; rw [hZx c hc]
      have eV : speedE n ⟨p.dt, p.gr, drag⟩ Be Wt Sx c y = speedL ⟨p.dt, p.gr, drag⟩ (lk n Be Wt y.1) (lk n Be Wt y.2.2.1) (gpE n y) 0 := by unfold speedE; rw [hZx c hc]
      rw [eU] at hsU
      rw [eV] at hsV
      generalize speedL ⟨p.dt, p.gr, 0⟩ (lk n Be Wt y.1) (lk n Be Wt y.2.2.1) (gpE n y) 0 = aU at *
      generalize speedL ⟨p.dt, p.gr, drag⟩ (lk n Be Wt y.1) (lk n Be Wt y.2.2.1) (gpE n y) 0 = aV at *
      simp only [lk] at pl1 pl2
      have hlA := fun m => level_ok (Be.getD y.1 0) (Wt.getD y.1 0) (areaC n y.1) m
      have hlB := fun m => level_ok (Be.getD y.2.2.1 0) (Wt.getD y.2.2.1 0) (areaC n y.2.2.1) m
      generalize levelF (Be.getD y.1 0) (Wt.getD y.1 0) (areaC n y.1) = A at *
      generalize levelF (Be.getD y.2.2.1 0) (Wt.getD y.2.2.1 0) (areaC n y.2.2.1) = B at *
      by_cases g1 : fgt (some A) (some B) = true
      · obtain ⟨f1, f2, f3⟩ := pl1 g1
        have g2 := gtF_lt g1
        (conv => whnf); repeat (first | (rw [kT0]; conv => whnf) | (rw [kP]; conv => whnf) | (rw [kS]; conv => whnf) | (rw [kT]; conv => whnf) | (rw [kQ]; conv => whnf) | (refine ⟨_, _, edge_ok N4 c y hx, ?_⟩; conv => whnf) | (refine ⟨_, edge_ok N4 c y hx, ?_⟩; conv => whnf) | (refine ⟨_, _, area_ok (N4.more _) y.1 c1', ?_⟩; conv => whnf) | (refine ⟨_, area_ok (N4.more _) y.1 c1', ?_⟩; conv => whnf) | (refine ⟨_, _, area_ok (N4.more _) y.2.2.1 c2', ?_⟩; conv => whnf) | (refine ⟨_, area_ok (N4.more _) y.2.2.1 c2', ?_⟩; conv => whnf) | (refine ⟨_, _, hlA _, ?_⟩; conv => whnf) | (refine ⟨_, hlA _, ?_⟩; conv => whnf) | (refine ⟨_, _, hlB _, ?_⟩; conv => whnf) | (refine ⟨_, hlB _, ?_⟩; conv => whnf) | (refine SlF.at (S4.s0.app _) (i := y.1) (by omega) rfl ?_; conv => whnf) | (refine SlF.at (S4.s0.app _) (i := y.2.2.1) (by omega) rfl ?_; conv => whnf) | (refine SlI.at (S4.s1.app _) (i := y.1) (by omega) rfl ?_; conv => whnf) | (refine SlI.at (S4.s1.app _) (i := y.2.2.1) (by omega) rfl ?_; conv => whnf) | (refine ⟨_, _, hsU _, ?_⟩; conv => whnf) | (refine ⟨_, hsU _, ?_⟩; conv => whnf) | (refine ⟨_, _, hsV _, ?_⟩; conv => whnf) | (refine ⟨_, hsV _, ?_⟩; conv => whnf) | (refine br_yes g1 ?_; conv => whnf) | (refine br_no g2 ?_; conv => whnf) | (refine br_no f1 ?_; conv => whnf) | (refine br_no f2 ?_; conv => whnf) | (refine br_no f3 ?_; conv => whnf) | (refine br_d (by omega) ?_; conv => whnf) | (refine br_nd (by omega) ?_; conv => whnf) | (refine br_eq (by omega) ?_; conv => whnf) | (refine br_neq (by omega) ?_; conv => whnf) | (refine br_ne (by omega) ?_; conv => whnf) | (refine br_no (bo_eqn (by omega)) ?_; conv => whnf) | (refine Or.inl ?_; conv => whnf) | (refine okS_no (by kernel_rfl) ?_; conv => whnf) | (refine okS_yes (by kernel_rfl) ?_; conv => whnf) | (refine And_of (by (conv => whnf); (rw [getB_app0]); (conv => whnf)) ?_; conv => whnf) | (refine setB_app ?_; conv => whnf) | (refine setB_app0 ?_; conv => whnf) | (rw [getB_app]; conv => whnf) | (rw [getB_app0]; conv => whnf) | (refine addB_f13 ?_; conv => whnf) | (refine addB_f12 ?_; conv => whnf) | (refine addB_f11 ?_; conv => whnf) | (refine addB_f10 ?_; conv => whnf) | (refine addB_f9 ?_; conv => whnf) | (refine addB_f8 ?_; conv => whnf) | (refine addB_f7 ?_; conv => whnf) | (refine addB_f6 ?_; conv => whnf) | (refine addB_f5 ?_; conv => whnf) | (refine addB_f4 ?_; conv => whnf) | (refine addB_f3 ?_; conv => whnf) | (refine addB_f2 ?_; conv => whnf) | (refine addB_f1 ?_; conv => whnf) | (refine addB_f0 ?_; conv => whnf))
        refine Fg.of _ ?_ rfl (by simp; omega) (by (simp [scL, V.sc, e4]) <;> omega) sc4
        conv => whnf
        exact ⟨rfl, rfl, rfl, rfl, rfl, wrapKL (by omega), rfl⟩
      have g1 := Bool.eq_false_iff.2 g1
      by_cases g2 : flt (some A) (some B) = true
      · obtain ⟨f1, f2, f3⟩ := pl2 g2
        (conv => whnf); repeat (first | (rw [kT0]; conv => whnf) | (rw [kP]; conv => whnf) | (rw [kS]; conv => whnf) | (rw [kT]; conv => whnf) | (rw [kQ]; conv => whnf) | (refine ⟨_, _, edge_ok N4 c y hx, ?_⟩; conv => whnf) | (refine ⟨_, edge_ok N4 c y hx, ?_⟩; conv => whnf) | (refine ⟨_, _, area_ok (N4.more _) y.1 c1', ?_⟩; conv => whnf) | (refine ⟨_, area_ok (N4.more _) y.1 c1', ?_⟩; conv => whnf) | (refine ⟨_, _, area_ok (N4.more _) y.2.2.1 c2', ?_⟩; conv => whnf) | (refine ⟨_, area_ok (N4.more _) y.2.2.1 c2', ?_⟩; conv => whnf) | (refine ⟨_, _, hlA _, ?_⟩; conv => whnf) | (refine ⟨_, hlA _, ?_⟩; conv => whnf) | (refine ⟨_, _, hlB _, ?_⟩; conv => whnf) | (refine ⟨_, hlB _, ?_⟩; conv => whnf) | (refine SlF.at (S4.s0.app _) (i := y.1) (by omega) rfl ?_; conv => whnf) | (refine SlF.at (S4.s0.app _) (i := y.2.2.1) (by omega) rfl ?_; conv => whnf) | (refine SlI.at (S4.s1.app _) (i := y.1) (by omega) rfl ?_; conv => whnf) | (refine SlI.at (S4.s1.app _) (i := y.2.2.1) (by omega) rfl ?_; conv => whnf) | (refine ⟨_, _, hsU _, ?_⟩; conv => whnf) | (refine ⟨_, hsU _, ?_⟩; conv => whnf) | (refine ⟨_, _, hsV _, ?_⟩; conv => whnf) | (refine ⟨_, hsV _, ?_⟩; conv => whnf) | (refine br_no g1 ?_; conv => whnf) | (refine br_yes g2 ?_; conv => whnf) | (refine br_no f1 ?_; conv => whnf) | (refine br_no f2 ?_; conv => whnf) | (refine br_no f3 ?_; conv => whnf) | (refine br_d (by omega) ?_; conv => whnf) | (refine br_nd (by omega) ?_; conv => whnf) | (refine br_eq (by omega) ?_; conv => whnf) | (refine br_neq (by omega) ?_; conv => whnf) | (refine br_ne (by omega) ?_; conv => whnf) | (refine br_no (bo_eqn (by omega)) ?_; conv => whnf) | (refine Or.inl ?_; conv => whnf) | (refine okS_no (by kernel_rfl) ?_; conv => whnf) | (refine okS_yes (by kernel_rfl) ?_; conv => whnf) | (refine And_of (by (conv => whnf); (rw [getB_app0]); (conv => whnf)) ?_; conv => whnf) | (refine setB_app ?_; conv => whnf) | (refine setB_app0 ?_; conv => whnf) | (rw [getB_app]; conv => whnf) | (rw [getB_app0]; conv => whnf) | (refine addB_f13 ?_; conv => whnf) | (refine addB_f12 ?_; conv => whnf) | (refine addB_f11 ?_; conv => whnf) | (refine addB_f10 ?_; conv => whnf) | (refine addB_f9 ?_; conv => whnf) | (refine addB_f8 ?_; conv => whnf) | (refine addB_f7 ?_; conv => whnf) | (refine addB_f6 ?_; conv => whnf) | (refine addB_f5 ?_; conv => whnf) | (refine addB_f4 ?_; conv => whnf) | (refine addB_f3 ?_; conv => whnf) | (refine addB_f2 ?_; conv => whnf) | (refine addB_f1 ?_; conv => whnf) | (refine addB_f0 ?_; conv => whnf))
        refine Fg.of _ ?_ rfl (by simp; omega) (by (simp [scL, V.sc, e4]) <;> omega) sc4
        conv => whnf
        exact ⟨rfl, rfl, rfl, rfl, rfl, wrapKL (by omega), rfl⟩
      have g2 := Bool.eq_false_iff.2 g2
      · (conv => whnf); repeat (first | (rw [kT0]; conv => whnf) | (rw [kP]; conv => whnf) | (rw [kS]; conv => whnf) | (rw [kT]; conv => whnf) | (rw [kQ]; conv => whnf) | (refine ⟨_, _, edge_ok N4 c y hx, ?_⟩; conv => whnf) | (refine ⟨_, edge_ok N4 c y hx, ?_⟩; conv => whnf) | (refine ⟨_, _, area_ok (N4.more _) y.1 c1', ?_⟩; conv => whnf) | (refine ⟨_, area_ok (N4.more _) y.1 c1', ?_⟩; conv => whnf) | (refine ⟨_, _, area_ok (N4.more _) y.2.2.1 c2', ?_⟩; conv => whnf) | (refine ⟨_, area_ok (N4.more _) y.2.2.1 c2', ?_⟩; conv => whnf) | (refine ⟨_, _, hlA _, ?_⟩; conv => whnf) | (refine ⟨_, hlA _, ?_⟩; conv => whnf) | (refine ⟨_, _, hlB _, ?_⟩; conv => whnf) | (refine ⟨_, hlB _, ?_⟩; conv => whnf) | (refine SlF.at (S4.s0.app _) (i := y.1) (by omega) rfl ?_; conv => whnf) | (refine SlF.at (S4.s0.app _) (i := y.2.2.1) (by omega) rfl ?_; conv => whnf) | (refine SlI.at (S4.s1.app _) (i := y.1) (by omega) rfl ?_; conv => whnf) | (refine SlI.at (S4.s1.app _) (i := y.2.2.1) (by omega) rfl ?_; conv => whnf) | (refine ⟨_, _, hsU _, ?_⟩; conv => whnf) | (refine ⟨_, hsU _, ?_⟩; conv => whnf) | (refine ⟨_, _, hsV _, ?_⟩; conv => whnf) | (refine ⟨_, hsV _, ?_⟩; conv => whnf) | (refine br_no g1 ?_; conv => whnf) | (refine br_no g2 ?_; conv => whnf) | (refine br_d (by omega) ?_; conv => whnf) | (refine br_nd (by omega) ?_; conv => whnf) | (refine br_eq (by omega) ?_; conv => whnf) | (refine br_neq (by omega) ?_; conv => whnf) | (refine br_ne (by omega) ?_; conv => whnf) | (refine br_no (bo_eqn (by omega)) ?_; conv => whnf) | (refine Or.inl ?_; conv => whnf) | (refine okS_no (by kernel_rfl) ?_; conv => whnf) | (refine okS_yes (by kernel_rfl) ?_; conv => whnf) | (refine And_of (by (conv => whnf); (rw [getB_app0]); (conv => whnf)) ?_; conv => whnf) | (refine setB_app ?_; conv => whnf) | (refine setB_app0 ?_; conv => whnf) | (rw [getB_app]; conv => whnf) | (rw [getB_app0]; conv => whnf) | (refine addB_f13 ?_; conv => whnf) | (refine addB_f12 ?_; conv => whnf) | (refine addB_f11 ?_; conv => whnf) | (refine addB_f10 ?_; conv => whnf) | (refine addB_f9 ?_; conv => whnf) | (refine addB_f8 ?_; conv => whnf) | (refine addB_f7 ?_; conv => whnf) | (refine addB_f6 ?_; conv => whnf) | (refine addB_f5 ?_; conv => whnf) | (refine addB_f4 ?_; conv => whnf) | (refine addB_f3 ?_; conv => whnf) | (refine addB_f2 ?_; conv => whnf) | (refine addB_f1 ?_; conv => whnf) | (refine addB_f0 ?_; conv => whnf))
        refine Fg.of _ ?_ rfl (by simp; omega) (by (simp [scL, V.sc, e4]) <;> omega) sc4
        conv => whnf
        exact ⟨rfl, rfl, rfl, rfl, rfl, wrapKL (by omega), rfl⟩
    · (conv => whnf); repeat (first | (rw [kT0]; conv => whnf) | (refine br_d (by omega) ?_; conv => whnf) | (refine br_nd (by omega) ?_; conv => whnf) | (refine br_eq (by omega) ?_; conv => whnf) | (refine br_neq (by omega) ?_; conv => whnf) | (refine br_ne (by omega) ?_; conv => whnf) | (refine br_no (bo_eqn (by omega)) ?_; conv => whnf) | (refine Or.inl ?_; conv => whnf) | (refine okS_no (by kernel_rfl) ?_; conv => whnf) | (refine okS_yes (by kernel_rfl) ?_; conv => whnf) | (refine And_of (by (conv => whnf); (rw [getB_app0]); (conv => whnf)) ?_; conv => whnf) | (refine setB_app ?_; conv => whnf) | (refine setB_app0 ?_; conv => whnf) | (rw [getB_app]; conv => whnf) | (rw [getB_app0]; conv => whnf) | (refine addB_f13 ?_; conv => whnf) | (refine addB_f12 ?_; conv => whnf) | (refine addB_f11 ?_; conv => whnf) | (refine addB_f10 ?_; conv => whnf) | (refine addB_f9 ?_; conv => whnf) | (refine addB_f8 ?_; conv => whnf) | (refine addB_f7 ?_; conv => whnf) | (refine addB_f6 ?_; conv => whnf) | (refine addB_f5 ?_; conv => whnf) | (refine addB_f4 ?_; conv => whnf) | (refine addB_f3 ?_; conv => whnf) | (refine addB_f2 ?_; conv => whnf) | (refine addB_f1 ?_; conv => whnf) | (refine addB_f0 ?_; conv => whnf))
      exact ⟨rfl, y4, hy4⟩
end Go.Proofs.YtemaeembndobaaaGreatDoor
