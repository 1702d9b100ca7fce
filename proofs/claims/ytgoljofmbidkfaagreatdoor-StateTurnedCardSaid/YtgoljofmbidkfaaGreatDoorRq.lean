import Derived.Test.YtgoljofmbidkfaaGreatDoorLa
import Derived.Test.YtgoljofmbidkfaaGreatDoorTd2
import Derived.Test.YtgoljofmbidkfaaGreatDoorR5
import Derived.Test.YtgoljofmbidkfaaGreatDoorLv
import Derived.Test.YtgoljofmbidkfaaGreatDoorSu
import Derived.Test.YtgoljofmbidkfaaGreatDoorKr
import Derived.Test.YtgoljofmbidkfaaGreatDoorCl
import Derived.Test.YtgoljofmbidkfaaGreatDoorR6
import Derived.Test.YtgoljofmbidkfaaGreatDoorRn
/- Package tarnlaw20: awake, wide. No condition. -/
namespace Go.Proofs.YtgoljofmbidkfaaGreatDoor
open Go Go.Eng
set_option maxRecDepth 100000
set_option linter.unusedSimpArgs false
set_option linter.unusedVariables false

abbrev one1 : Nat := 4607182418800017408
abbrev ar1 : Int := 1431655765
theorem area1' : ∀ c, c < 6 → areaC 1 c = ar1 := by decide +kernel
theorem plan_dt {x : Int} (hx : cellsI x = 6) (d g r lim : Nat) (hd : fgt (some d) (some 0) = false) (riv : Bool) (vR : V) (ho : vR.one = true) (M : List Blk) : COk Tryz.prog 3 23 [.agg [I x, F d, F g, F r, I lim, Bo riv, vR]] M (I 11) M := by
  have hc := fun m => cells_ok x m
  rw [hx] at hc
  have hone : allOne [I x, F d, F g, F r, I lim, Bo riv, vR] = true := by simp only [allOne, ho]; rfl
  refine COk_quiet Tryz.f23 Tryz.func23 (by kernel_rfl) rfl ?_
  (conv => whnf); repeat ((first | refine br_yes hone ?_ | refine ⟨_, _, hc _, ?_⟩ | refine br_yes (congrArg not hd) ?_ | refine setB_app ?_ | rw [getB_app] | rw [getB_app0] | refine addB_f1 ?_ | refine addB_f0 ?_); conv => whnf)
  exact ⟨rfl, _, rfl⟩
abbrev z6F : List Nat := List.replicate 6 0
abbrev z6I : List Int := List.replicate 6 0
abbrev z12 : List Nat := List.replicate 12 0
theorem nothing_ok {M : List Blk} (hsc : scM M.length M = true) : COk Tryz.prog 3 67 [] M (seaV (M.length + 1) (M.length + 2) (M.length + 3) (M.length + 4) 6 6 6 12 0 0) (M ++ [sBx (.sl (M.length + 1) 0 6) (.sl (M.length + 2) 0 6) (.sl (M.length + 3) 0 6) (.sl (M.length + 4) 0 12) 0 0, ⟨true, .flts z6F⟩, ⟨true, .ints .i64 z6I⟩, ⟨true, .ints .i64 z6I⟩, ⟨true, .flts z12⟩]) := by
  refine COk_of_ev Tryz.f67 Tryz.func67 (by kernel_rfl) (by simp) (by simp [V.sc, scL]) (.inr (scM_app (scM_mono (by simp) _ hsc) (by simp [scM, B.sc, scL, V.sc]))) ?_
  (conv => whnf); repeat ((first | refine Or.inl ?_ | refine setB_app0 ?_ | rw [getB_app0] | refine addB_f4 ?_ | refine addB_f3 ?_ | refine addB_f2 ?_ | refine addB_f1 ?_ | refine addB_f0 ?_); conv => whnf)
  exact ⟨rfl, [], by rw [List.append_nil]; rfl⟩
/-- The bed that is too high. -/
abbrev bad4 : Nat := 4701340746312056832
theorem chk_bad : chkF 1 (z6F.set 4 bad4) z6I z6I z12 0 0 = (4, 13) := by decide +kernel
theorem lak_at : ∀ c, c < 6 → lakW 1 z6F one1 c = ar1 := by
  intro c hc
  unfold lakW
  rw [area1' c hc, show z6F.getD c 0 = 0 by rw [List.getD_eq_getElem?_getD, List.getElem?_replicate, if_pos hc]; rfl]
  decide +kernel
theorem lak_tab : tab z6F.length (lakW 1 z6F one1) = List.replicate 6 ar1 := by
  rw [show z6F.length = 6 from rfl, tab_rep]
  exact tab_congr lak_at
theorem lak_q : quI (tab z6F.length (lakW 1 z6F one1)) 0 = -1 := by rw [lak_tab]; decide +kernel
theorem lak_b : ¬ 0 ≤ flI z6F mxH := by decide +kernel
theorem lak_h : highB one1 = true := by decide +kernel
theorem edges12 : (edges 1).length = 12 := edges_len (n := 1) (by decide)
theorem lak_ok : SeaOk 1 z6F (List.replicate 6 ar1) z6I (z12.set 0 one1) 0 0 := by
  have h : (chkF 1 z6F (List.replicate 6 ar1) z6I (z12.set 0 one1) 0 0).2 = 0 := by decide +kernel
  obtain ⟨n, hn, O⟩ := chk_ok h
  obtain rfl : n = 1 := by omega
  exact O
theorem lak_diff : sameB (z6F, List.replicate 6 ar1, z6I, z12, 0, 0) (z6F, List.replicate 6 ar1, z6I, z12.set 0 one1, 0, 0) = false := by decide +kernel
abbrev tailT (L : Nat) : List Blk := [sBx (.sl (L + 2) 0 6) (.sl (L + 3) 0 6) (.sl (L + 4) 0 6) (.sl (L + 5) 0 12) 0 0, sBx (.sl (L + 2) 0 6) (.sl (L + 3) 0 6) (.sl (L + 4) 0 6) (.sl (L + 5) 0 12) 0 0,
  ⟨true, .flts z6F⟩, ⟨true, .ints .i64 (List.replicate 6 ar1)⟩, ⟨true, .ints .i64 z6I⟩, ⟨true, .flts (z12.set 0 one1)⟩, sBx (.sl (L + 2) 0 6) (.sl (L + 3) 0 6) (.sl (L + 4) 0 6) (.sl (L + 5) 0 12) 0 0]
set_option maxHeartbeats 0 in
theorem awake20_ok {M : List Blk} (hm : Top M) (hsc : scM M.length M = true) : COk Tryz.prog 3 22 [] M (Bo true) M := by
  have hng := hm.ng
  have h0 := nothing_ok hsc
  have u1 : Up M (M ++ ([sBx (.sl (M.length + 1) 0 6) (.sl (M.length + 2) 0 6) (.sl (M.length + 3) 0 6) (.sl (M.length + 4) 0 12) 0 0, ⟨true, .flts (z6F.set 4 bad4)⟩, ⟨true, .ints .i64 z6I⟩, ⟨true, .ints .i64 z6I⟩, ⟨true, .flts z12⟩, sBx (.sl (M.length + 1) 0 6) (.sl (M.length + 2) 0 6) (.sl (M.length + 3) 0 6) (.sl (M.length + 4) 0 12) 0 0] : List Blk)) :=
    Up.of hsc (by simp [scM, B.sc, scL, V.sc])
  have S1 : SeaR (M ++ ([sBx (.sl (M.length + 1) 0 6) (.sl (M.length + 2) 0 6) (.sl (M.length + 3) 0 6) (.sl (M.length + 4) 0 12) 0 0, ⟨true, .flts (z6F.set 4 bad4)⟩, ⟨true, .ints .i64 z6I⟩, ⟨true, .ints .i64 z6I⟩, ⟨true, .flts z12⟩, sBx (.sl (M.length + 1) 0 6) (.sl (M.length + 2) 0 6) (.sl (M.length + 3) 0 6) (.sl (M.length + 4) 0 12) 0 0] : List Blk)) (M.length + 1) (M.length + 2) (M.length + 3) (M.length + 4) (z6F.set 4 bad4) z6I z6I z12 :=
    ⟨SlF.whole (getB_app 1) (by decide) (by decide), SlI.whole (getB_app 2) (by decide) (by decide), SlI.whole (getB_app 3) (by decide) (by decide), SlF.whole (getB_app 4) (by decide) (by decide)⟩
  have hck := Check_ok u1.sc (by simp) S1 1 0 0
  rw [chk_bad] at hck
  have u2 : Up M (M ++ ([sBx (.sl (M.length + 1) 0 6) (.sl (M.length + 2) 0 6) (.sl (M.length + 3) 0 6) (.sl (M.length + 4) 0 12) 0 0, ⟨true, .flts (z6F.set 4 bad4)⟩, ⟨true, .ints .i64 z6I⟩, ⟨true, .ints .i64 z6I⟩, ⟨true, .flts z12⟩, sBx (.sl (M.length + 1) 0 6) (.sl (M.length + 2) 0 6) (.sl (M.length + 3) 0 6) (.sl (M.length + 4) 0 12) 0 0, ⟨true, .flts z6F⟩] : List Blk)) :=
    Up.of hsc (by simp [scM, B.sc, scL, V.sc])
  obtain ⟨M2, k0, k1, k2, k3, hlk, u3, S2⟩ := Lake_up (hm.up u2) u2.sc (j := M.length + 6) (w := true) (Be := z6F) (getB_app 6) (by decide) (by decide) (n := 1) (by decide) (by decide) (by decide) lak_b lak_h lak_q
  rw [lak_tab, edges12] at S2
  rw [edges12] at hlk
  have hm2 := (hm.up u2).up u3
  refine COk_quiet Tryz.f22 Tryz.func22 (by kernel_rfl) rfl ?_
  have hpl := fun m => plan_dt (x := 1) (by decide) 0 0 0 0 (by decide +kernel) false nilS' rfl m
  have u4 : Up M2 (M2 ++ ([sBx (.sl k0 0 6) (.sl k1 0 6) (.sl k2 0 6) (.sl k3 0 12) 0 0] : List Blk)) := Up.of u3.sc (by
    have a0 := S2.read.s0.lt
    have a1 := S2.read.s1.lt
    have a2 := S2.read.s2.lt
    have a3 := S2.read.s3.lt
    simp [scM, B.sc, scL, V.sc]; omega)
  have hcp := Copy_pl u4.sc (S2.up u4) (by decide) (by decide) (by decide) (by decide) 0 0
  have hw5 : (List.replicate 6 ar1).getD 5 0 = ar1 := rfl
  unfold copL at hcp
  have u5 : Up (M2 ++ ([sBx (.sl k0 0 6) (.sl k1 0 6) (.sl k2 0 6) (.sl k3 0 12) 0 0] : List Blk)) (M2 ++ ([sBx (.sl k0 0 6) (.sl k1 0 6) (.sl k2 0 6) (.sl k3 0 12) 0 0] : List Blk) ++ tailT (M2 ++ ([sBx (.sl k0 0 6) (.sl k1 0 6) (.sl k2 0 6) (.sl k3 0 12) 0 0] : List Blk)).length) :=
    Up.of u4.sc (by simp [scM, B.sc, scL, V.sc])
  have S5 : SeaB (M2 ++ ([sBx (.sl k0 0 6) (.sl k1 0 6) (.sl k2 0 6) (.sl k3 0 12) 0 0] : List Blk) ++ tailT (M2 ++ ([sBx (.sl k0 0 6) (.sl k1 0 6) (.sl k2 0 6) (.sl k3 0 12) 0 0] : List Blk)).length) true ((M2 ++ ([sBx (.sl k0 0 6) (.sl k1 0 6) (.sl k2 0 6) (.sl k3 0 12) 0 0] : List Blk)).length + 2) ((M2 ++ ([sBx (.sl k0 0 6) (.sl k1 0 6) (.sl k2 0 6) (.sl k3 0 12) 0 0] : List Blk)).length + 3) ((M2 ++ ([sBx (.sl k0 0 6) (.sl k1 0 6) (.sl k2 0 6) (.sl k3 0 12) 0 0] : List Blk)).length + 4) ((M2 ++ ([sBx (.sl k0 0 6) (.sl k1 0 6) (.sl k2 0 6) (.sl k3 0 12) 0 0] : List Blk)).length + 5)
      z6F (List.replicate 6 ar1) z6I (z12.set 0 one1) :=
    ⟨getB_app 2, getB_app 3, getB_app 4, getB_app 5, by decide, by decide, by decide, by decide, by decide, by decide, by decide, by decide⟩
  obtain ⟨M5, q0, q1, q2, q3, htu, u6, S6⟩ := Turned_up ((hm2.up u4).up u5) u5.sc S5 lak_ok (t := 4) (by decide)
  rw [trB_len, trB_len, trB_len, trP_len, edges12] at htu
  have b0 := S6.read.s0.lt
  have b1 := S6.read.s1.lt
  have b2 := S6.read.s2.lt
  have b3 := S6.read.s3.lt
  have u7 : Up M5 (M5 ++ ([sBx (.sl q0 0 6) (.sl q1 0 6) (.sl q2 0 6) (.sl q3 0 12) 0 0] : List Blk)) := Up.of u6.sc (by simp [scM, B.sc, scL, V.sc]; omega)
  have hm7 := (((hm2.up u4).up u5).up u6).up u7
  have hl := Same_ok u7.sc hm7.ng (S2.read.up (((u4.trans u5).trans u6).trans u7)) (S2.read.up (((u4.trans u5).trans u6).trans u7)) 0 0 0 0
  rw [sameB_self] at hl
  have hd := Same_ok u7.sc hm7.ng (S2.read.up (((u4.trans u5).trans u6).trans u7)) (S5.read.up (u6.trans u7)) 0 0 0 0
  rw [show sameB (z6F, List.replicate 6 ar1, List.replicate z6F.length 0, List.replicate 12 0, 0, 0) (z6F, List.replicate 6 ar1, z6I, z12.set 0 one1, 0, 0) = false from lak_diff] at hd
  have g4 : ∀ l : List Blk, ∃ y, M5 ++ l = M2 ++ ([sBx (.sl k0 0 6) (.sl k1 0 6) (.sl k2 0 6) (.sl k3 0 12) 0 0] ++ y) := fun l => by
    obtain ⟨y, hy⟩ := (u5.trans u6).ex
    exact ⟨y ++ l, by rw [hy]; simp⟩
  have gl : ∀ l : List Blk, getB (M5 ++ l) M2.length = sBx (.sl k0 0 6) (.sl k1 0 6) (.sl k2 0 6) (.sl k3 0 12) 0 0 := fun l => by
    obtain ⟨y, hy⟩ := g4 l
    rw [hy]; exact getB_app0
  have gt : ∀ l : List Blk, getB (M5 ++ l) ((M2 ++ ([sBx (.sl k0 0 6) (.sl k1 0 6) (.sl k2 0 6) (.sl k3 0 12) 0 0] : List Blk)).length + 6) = sBx (.sl ((M2 ++ ([sBx (.sl k0 0 6) (.sl k1 0 6) (.sl k2 0 6) (.sl k3 0 12) 0 0] : List Blk)).length + 2) 0 6) (.sl ((M2 ++ ([sBx (.sl k0 0 6) (.sl k1 0 6) (.sl k2 0 6) (.sl k3 0 12) 0 0] : List Blk)).length + 3) 0 6) (.sl ((M2 ++ ([sBx (.sl k0 0 6) (.sl k1 0 6) (.sl k2 0 6) (.sl k3 0 12) 0 0] : List Blk)).length + 4) 0 6) (.sl ((M2 ++ ([sBx (.sl k0 0 6) (.sl k1 0 6) (.sl k2 0 6) (.sl k3 0 12) 0 0] : List Blk)).length + 5) 0 12) 0 0 := fun l => by
    obtain ⟨y, hy⟩ := u6.ex
    rw [hy, List.append_assoc]
    exact getB_in (getB_app 6) rfl
  (conv => whnf); repeat ((first | refine ⟨_, _, h0, ?_⟩ | refine ⟨_, _, hck, ?_⟩ | refine ⟨_, _, hlk, ?_⟩ | refine ⟨_, _, hpl _, ?_⟩ | refine ⟨_, _, hcp, ?_⟩ | refine ⟨_, _, htu, ?_⟩ | refine ⟨_, _, hl, ?_⟩ | refine ⟨_, _, hd, ?_⟩ | refine SlI.at (S2.read.s1.app _) (i := 5) (by decide) rfl ?_ | rw [hw5] | rw [gl] | rw [gt] | refine Or.inl ?_ | refine setB_app ?_ | refine setB_app0 ?_ | rw [getB_app] | rw [getB_app0] | refine addB_f6 ?_ | refine addB_f5 ?_ | refine addB_f0 ?_); conv => whnf)
  exact ⟨rfl, (((((u2.trans u3).trans u4).trans u5).trans u6)).app _⟩
/-- More numbers than are looked at? -/
def wideB (a b c d : Nat) : Bool := decide ((a + b + c + d : Nat) > 131072)
theorem wide_ok {M : List Blk} (j0 j1 j2 j3 : Nat) {a b c d : Nat} (ha : a ≤ 17592186044416) (hb : b ≤ 17592186044416) (hc : c ≤ 17592186044416) (hd : d ≤ 17592186044416) (sky step : Int) : COk Tryz.prog 3 25 [seaV j0 j1 j2 j3 a b c d sky step] M (Bo (wideB a b c d)) M := by
  have e : IntKind.i64.wrap (IntKind.i64.wrap (IntKind.i64.wrap ((a : Int) + b) + c) + d) = ((a + b + c + d : Nat) : Int) := by
    simp (disch := omega) only [wrap_id]
    push_cast; rfl
  unfold wideB
  refine COk_quiet Tryz.f25 Tryz.func25 (by kernel_rfl) rfl ?_
  (conv => whnf); repeat ((first | rw [getB_app0] | refine addB_f0 ?_); conv => whnf)
  refine ⟨?_, _, rfl⟩
  rw [e]
  exact congrArg V.bool (decide_eq_decide.2 ⟨fun h => by omega, fun h => by omega⟩)
end Go.Proofs.YtgoljofmbidkfaaGreatDoor
/- The reference's turns. No condition. -/
namespace Go.Proofs.YtgoljofmbidkfaaGreatDoor
open Go Go.Eng
set_option maxRecDepth 100000
set_option linter.unusedSimpArgs false
set_option linter.unusedVariables false

def xT (t : Nat) : P3 := (tx t 0, tx t 1, tx t 2)
def yT (t : Nat) : P3 := (tx t 3, tx t 4, tx t 5)
def zT (t : Nat) : P3 := (tx t 6, tx t 7, tx t 8)
def trn (t : Nat) (p : P3) : P3 := plP (plP (plP (0, 0, 0) p.1 (xT t)) p.2.1 (yT t)) p.2.2 (zT t)
theorem fC_fc : ∀ f, f < 6 → fC f = (fc f 0, fc f 1, fc f 2) ∧ fR f = (fc f 3, fc f 4, fc f 5) ∧ fU f = (fc f 6, fc f 7, fc f 8) := by decide +kernel
theorem midQ_mq {n f i j : Nat} (hf : f < 6) : midQ n f i j = (mq n f i j 0, mq n f i j 1, mq n f i j 2) := by
  obtain ⟨e1, e2, e3⟩ := fC_fc f hf
  unfold midQ plP mq
  rw [e1, e2, e3]
  simp
theorem trn_mid {t f n i j : Nat} (ht : t < 24) (hf : f < 6) (hi : i < n) (hj : j < n) : trn t (midQ n f i j) = midQ n (fa t f) (rotI n (qu t f) i j) (rotJ n (qu t f) i j) := by
  rw [midQ_mq hf, midQ_mq (fa_lt t ht f hf).1, ← turn_mq ht hf hi hj (k := 0) (by decide), ← turn_mq ht hf hi hj (k := 1) (by decide), ← turn_mq ht hf hi hj (k := 2) (by decide)]
  unfold trn plP xT yT zT
  simp only [Int.zero_add, Int.mul_comm, Nat.add_zero, Nat.reduceAdd]
theorem trn_east : ∀ t, t < 24 → ∀ f, f < 6 → trn t (wayQ f 0) = wayQ (fa t f) (qu t f) := by decide +kernel
theorem way_ne : ∀ g, g < 6 → ∀ s, s < 4 → ∀ q, q < 4 → (s = q ∨ wayQ g s ≠ wayQ g q) := by decide +kernel
theorem mid_on {n g i j : Nat} (hg : g < 6) : dtP (midQ n g i j) (fC g) = n ∧ dtP (midQ n g i j) (fR g) = 2 * i + 1 - n ∧ dtP (midQ n g i j) (fU g) = 2 * j + 1 - n := by
  obtain rfl | rfl | rfl | rfl | rfl | rfl : g = 0 ∨ g = 1 ∨ g = 2 ∨ g = 3 ∨ g = 4 ∨ g = 5 := by omega
  all_goals
    simp only [midQ, dtP, plP, fC, fR, fU]
    refine ⟨?_, ?_, ?_⟩ <;> omega
theorem mid_off {n g k i j : Nat} (hn : 1 ≤ n) (hg : g < 6) (hk : k < 6) (h : k ≠ g) (hi : i < n) (hj : j < n) : dtP (midQ n g i j) (fC k) ≠ n := by
  obtain rfl | rfl | rfl | rfl | rfl | rfl : g = 0 ∨ g = 1 ∨ g = 2 ∨ g = 3 ∨ g = 4 ∨ g = 5 := by omega
  all_goals
    obtain rfl | rfl | rfl | rfl | rfl | rfl : k = 0 ∨ k = 1 ∨ k = 2 ∨ k = 3 ∨ k = 4 ∨ k = 5 := by omega
    all_goals first
      | exact absurd rfl h
      | (simp only [midQ, dtP, plP, fC, fR, fU]; omega)
theorem bd_xT : ∀ t, t < 24 → bdP 1 (xT t) ∧ bdP 1 (yT t) ∧ bdP 1 (zT t) := fun t ht => by
  have u := tx_unit t ht
  have b : ∀ k, k < 9 → -1 ≤ tx t k ∧ tx t k ≤ 1 := fun k hk => by
    rcases u k hk with h | h | h <;> rw [h] <;> decide
  exact ⟨⟨b 0 (by decide), b 1 (by decide), b 2 (by decide)⟩, ⟨b 3 (by decide), b 4 (by decide), b 5 (by decide)⟩, ⟨b 6 (by decide), b 7 (by decide), b 8 (by decide)⟩⟩
theorem rcross_z (a b : P3) (x : List Blk) : COk Tryz.prog 3 169 [vP a, vP b] (GG x) (V3 (IntKind.i64.wrap (IntKind.i64.wrap (a.2.1 * b.2.2) - IntKind.i64.wrap (a.2.2 * b.2.1))) (IntKind.i64.wrap (IntKind.i64.wrap (a.2.2 * b.1) - IntKind.i64.wrap (a.1 * b.2.2))) (IntKind.i64.wrap (IntKind.i64.wrap (a.1 * b.2.1) - IntKind.i64.wrap (a.2.1 * b.1)))) (GG x) := by
  refine lift ?_ rfl x
  refine COk_quiet Tryz.f169 Tryz.func169 (by kernel_rfl) rfl ?_
  (conv => whnf); repeat ((first | refine br_d (by omega) ?_ | refine br_nd (by omega) ?_ | refine br_eq (by omega) ?_ | refine br_neq (by omega) ?_ | refine br_ne (by omega) ?_ | refine br_no (bo_eqn (by omega)) ?_ | refine Or.inl ?_ | refine okS_no (by kernel_rfl) ?_ | refine okS_yes (by kernel_rfl) ?_ | refine And_of (by (conv => whnf); (rw [getB_app0]); (conv => whnf)) ?_ | refine setB_app ?_ | refine setB_app0 ?_ | rw [getB_app] | rw [getB_app0] | refine addB_f13 ?_ | refine addB_f12 ?_ | refine addB_f11 ?_ | refine addB_f10 ?_ | refine addB_f9 ?_ | refine addB_f8 ?_ | refine addB_f7 ?_ | refine addB_f6 ?_ | refine addB_f5 ?_ | refine addB_f4 ?_ | refine addB_f3 ?_ | refine addB_f2 ?_ | refine addB_f1 ?_ | refine addB_f0 ?_); conv => whnf)
  exact ⟨rfl, _, rfl⟩
/-- Which faces the turns' first two axes are. -/
def imF (t : Nat) : Nat := t / 4
def imG (t : Nat) : Nat := fa t 1
theorem im_xy : ∀ t, t < 24 → imF t < 6 ∧ imG t < 6 ∧ fC (imF t) = xT t ∧ fC (imG t) = yT t ∧ dtP (xT t) (yT t) = 0 ∧
    ((xT t).2.1 * (yT t).2.2 - (xT t).2.2 * (yT t).2.1, (xT t).2.2 * (yT t).1 - (xT t).1 * (yT t).2.2, (xT t).1 * (yT t).2.1 - (xT t).2.1 * (yT t).1) = zT t := by decide +kernel
/-- How many faces ahead of a face are crosswise to an axis. -/
def imC (X : P3) : Nat → Nat
  | 0 => 0
  | f + 1 => imC X f + (if dtP X (fC f) = 0 then 1 else 0)
theorem im_cnt : ∀ t, t < 24 → imC (xT t) (imG t) = t % 4 ∧ ∀ f, f < imG t → (dtP (xT t) (fC f) ≠ 0 ∨ imC (xT t) f < t % 4) := by decide +kernel
set_option maxHeartbeats 0 in
theorem rimages_ok (t : Nat) (ht : t < 24) (x : List Blk) : COk Tryz.prog 3 154 [I t] (GG x) (.tup [vP (xT t), vP (yT t), vP (zT t)]) (GG x) := by
  refine lift ?_ rfl x
  refine COk_quiet Tryz.f154 Tryz.func154 (by kernel_rfl) rfl ?_
  have hfr := fun f hf => rframe_ok f hf
  have h4 : IntKind.i64.wrap ((t : Int).tdiv 4) = ((t / 4 : Nat) : Int) := by
    rw [show (4 : Int) = ((4 : Nat) : Int) from rfl, ← Int.ofNat_tdiv]; exact wrap_id (by omega) (by omega)
  have h5 : (t : Int).tmod 4 = ((t % 4 : Nat) : Int) := by
    rw [show (4 : Int) = ((4 : Nat) : Int) from rfl, ← Int.ofNat_tmod]
  have hf4 := hfr (t / 4) (by omega)
  (conv => whnf); repeat ((first | rw [h4] | refine ⟨_, _, hf4 _, ?_⟩ | refine ⟨_, hf4 _, ?_⟩ | rw [h5] | refine br_d (by omega) ?_ | refine br_nd (by omega) ?_ | refine br_eq (by omega) ?_ | refine br_neq (by omega) ?_ | refine br_ne (by omega) ?_ | refine br_no (bo_eqn (by omega)) ?_ | refine Or.inl ?_ | refine okS_no (by kernel_rfl) ?_ | refine okS_yes (by kernel_rfl) ?_ | refine And_of (by (conv => whnf); (rw [getB_app0]); (conv => whnf)) ?_ | refine setB_app ?_ | refine setB_app0 ?_ | rw [getB_app] | rw [getB_app0] | refine addB_f13 ?_ | refine addB_f12 ?_ | refine addB_f11 ?_ | refine addB_f10 ?_ | refine addB_f9 ?_ | refine addB_f8 ?_ | refine addB_f7 ?_ | refine addB_f6 ?_ | refine addB_f5 ?_ | refine addB_f4 ?_ | refine addB_f3 ?_ | refine addB_f2 ?_ | refine addB_f1 ?_ | refine addB_f0 ?_); conv => whnf)
  obtain ⟨g1, g2, e1, e2, e3, e4⟩ := im_xy t ht
  obtain ⟨c1, c2⟩ := im_cnt t ht
  unfold imF at e1
  have hdt := fun k (hk : k < 6) => rdot_in (xT t) (fC k) (bd_le (bd_xT t ht).1 (by decide)) (bd_fC hk)
  have bx := (bd_xT t ht).1
  have by' := (bd_xT t ht).2.1
  generalize imG t = g at *
  rw [e1]
  have hfg := hfr g g2
  rw [e2] at hfg
  have hcr := rcross_z (xT t) (yT t)
  have mb : ∀ {a b : Int}, -1 ≤ a ∧ a ≤ 1 → -1 ≤ b ∧ b ≤ 1 → -1 ≤ a * b ∧ a * b ≤ 1 := fun {a b} ha hb => by
    rcases (show a = -1 ∨ a = 0 ∨ a = 1 by omega) with rfl | rfl | rfl <;> omega
  have m1 := mb bx.y by'.z
  have m2 := mb bx.z by'.y
  have m3 := mb bx.z by'.x
  have m4 := mb bx.x by'.z
  have m5 := mb bx.x by'.y
  have m6 := mb bx.y by'.x
  simp (disch := omega) only [wrap_id] at hcr
  have hcr : ∀ z, COk Tryz.prog 3 169 [vP (xT t), vP (yT t)] (GG z) (vP (zT t)) (GG z) := fun z => by
    have := hcr z
    rw [← e4]
    exact this
  generalize fR (t / 4) = r4 at *
  generalize fU (t / 4) = u4 at *
  have hfk := hfr
  have hdg := hdt g g2
  rw [e2, e3] at hdg
  generalize xT t = X at *
  generalize yT t = Y at *
  generalize zT t = Z at *
  refine loop_to (fun k => [.any, .any, .ptr 3 0, .ptr 4 0, .ptr 5 0, .ptr 6 0, .any, .any, I ((t % 4 - imC X k : Nat) : Int), I k, .any, .any, .any, .any, .any, .any, .any, .any, .any, .any, .any, .any, .any, .any, .any, .any, .any, .any, .any, .any, .any, .any, .any, .any, .any, .any, .any, .any, .any, .any, .any, .any, .any, .any, .any, .any, .any, .any]) (fun _ => GG [bxP (0, 0, 0), bxP (0, 0, 0), bxP (0, 0, 0), bxP X, bxP r4, bxP u4]) 0 g (Nat.zero_le _) ?_ ?_ ?_
  · refine Fg.of [] ?_ rfl (by simp) rfl rfl
    conv => whnf
    exact ⟨rfl, rfl, rfl, rfl, rfl, rfl, rfl⟩
  · intro k _ hk
    have hfk := hfr k (by omega)
    have hdk := hdt k (by omega)
    have hck := c2 k hk
    have hi : imC X (k + 1) = imC X k + (if dtP X (fC k) = 0 then 1 else 0) := rfl
    generalize fR k = r at *
    generalize fU k = u at *
    generalize dtP X (fC k) = dc at *
    generalize fC k = c at *
    by_cases hd : dc = 0
    · have hlt := hck.resolve_left (fun h => h hd)
      rw [if_pos hd] at hi
      rw [hi]
      have hw : IntKind.i64.wrap (((t % 4 - imC X k : Nat) : Int) - 1) = ((t % 4 - (imC X k + 1) : Nat) : Int) := by rw [wrap_id (by omega) (by omega)]; omega
      (conv => whnf); repeat ((first | refine ⟨_, _, hfk _, ?_⟩ | refine ⟨_, hfk _, ?_⟩ | refine ⟨_, _, hdk _, ?_⟩ | refine ⟨_, hdk _, ?_⟩ | refine br_no (bne_eq_false_iff_eq.2 hd) ?_ | refine br_neq (by omega) ?_ | refine br_d (by omega) ?_ | refine br_nd (by omega) ?_ | refine br_eq (by omega) ?_ | refine br_neq (by omega) ?_ | refine br_ne (by omega) ?_ | refine br_no (bo_eqn (by omega)) ?_ | refine Or.inl ?_ | refine okS_no (by kernel_rfl) ?_ | refine okS_yes (by kernel_rfl) ?_ | refine And_of (by (conv => whnf); (rw [getB_app0]); (conv => whnf)) ?_ | refine setB_app ?_ | refine setB_app0 ?_ | rw [getB_app] | rw [getB_app0] | refine addB_f13 ?_ | refine addB_f12 ?_ | refine addB_f11 ?_ | refine addB_f10 ?_ | refine addB_f9 ?_ | refine addB_f8 ?_ | refine addB_f7 ?_ | refine addB_f6 ?_ | refine addB_f5 ?_ | refine addB_f4 ?_ | refine addB_f3 ?_ | refine addB_f2 ?_ | refine addB_f1 ?_ | refine addB_f0 ?_); conv => whnf)
      rw [hw]
      refine Fg.of [bxP c, bxP r, bxP u] ?_ rfl (by simp) rfl rfl
      conv => whnf
      exact ⟨rfl, rfl, rfl, rfl, rfl, wrapKL (by omega), rfl⟩
    · rw [if_neg hd] at hi
      rw [hi]
      (conv => whnf); repeat ((first | refine ⟨_, _, hfk _, ?_⟩ | refine ⟨_, hfk _, ?_⟩ | refine ⟨_, _, hdk _, ?_⟩ | refine ⟨_, hdk _, ?_⟩ | refine br_yes (bne_iff_ne.2 hd) ?_ | refine br_d (by omega) ?_ | refine br_nd (by omega) ?_ | refine br_eq (by omega) ?_ | refine br_neq (by omega) ?_ | refine br_ne (by omega) ?_ | refine br_no (bo_eqn (by omega)) ?_ | refine Or.inl ?_ | refine okS_no (by kernel_rfl) ?_ | refine okS_yes (by kernel_rfl) ?_ | refine And_of (by (conv => whnf); (rw [getB_app0]); (conv => whnf)) ?_ | refine setB_app ?_ | refine setB_app0 ?_ | rw [getB_app] | rw [getB_app0] | refine addB_f13 ?_ | refine addB_f12 ?_ | refine addB_f11 ?_ | refine addB_f10 ?_ | refine addB_f9 ?_ | refine addB_f8 ?_ | refine addB_f7 ?_ | refine addB_f6 ?_ | refine addB_f5 ?_ | refine addB_f4 ?_ | refine addB_f3 ?_ | refine addB_f2 ?_ | refine addB_f1 ?_ | refine addB_f0 ?_); conv => whnf)
      refine Fg.of [bxP c, bxP r, bxP u] ?_ rfl (by simp) rfl rfl
      conv => whnf
      exact ⟨rfl, rfl, rfl, rfl, rfl, wrapKL (by omega), rfl⟩
  · rw [c1]
    generalize fR g = r at *
    generalize fU g = u at *
    (conv => whnf); repeat ((first | refine ⟨_, _, hfg _, ?_⟩ | refine ⟨_, hfg _, ?_⟩ | refine ⟨_, _, hdg _, ?_⟩ | refine ⟨_, hdg _, ?_⟩ | refine br_no (bne_eq_false_iff_eq.2 rfl) ?_ | refine br_eq (by omega) ?_ | refine ⟨_, _, hcr _, ?_⟩ | refine ⟨_, hcr _, ?_⟩ | refine ⟨rfl, ?_⟩ | refine br_d (by omega) ?_ | refine br_nd (by omega) ?_ | refine br_eq (by omega) ?_ | refine br_neq (by omega) ?_ | refine br_ne (by omega) ?_ | refine br_no (bo_eqn (by omega)) ?_ | refine Or.inl ?_ | refine okS_no (by kernel_rfl) ?_ | refine okS_yes (by kernel_rfl) ?_ | refine And_of (by (conv => whnf); (rw [getB_app0]); (conv => whnf)) ?_ | refine setB_app ?_ | refine setB_app0 ?_ | rw [getB_app] | rw [getB_app0] | refine addB_f13 ?_ | refine addB_f12 ?_ | refine addB_f11 ?_ | refine addB_f10 ?_ | refine addB_f9 ?_ | refine addB_f8 ?_ | refine addB_f7 ?_ | refine addB_f6 ?_ | refine addB_f5 ?_ | refine addB_f4 ?_ | refine addB_f3 ?_ | refine addB_f2 ?_ | refine addB_f1 ?_ | refine addB_f0 ?_); conv => whnf)
    first | exact ⟨rfl, _, rfl⟩ | exact ⟨_, rfl⟩
theorem rturned_ok (t : Nat) (ht : t < 24) (p : P3) (hp : bdP 100 p) (x : List Blk) : COk Tryz.prog 3 134 [I t, vP p] (GG x) (vP (trn t p)) (GG x) := by
  refine lift ?_ rfl x
  obtain ⟨b1, b2, b3⟩ := bd_xT t ht
  have p1 := rplus_in (0, 0, 0) (xT t) p.1 (bd_le bd_0 (by decide)) b1 (by have := hp.x; omega)
  have q1 := bd_pl bd_0 b1 (k := p.1) (p := 100) (by have := hp.x; omega) (by decide)
  have p2 := rplus_in _ (yT t) p.2.1 (bd_le q1 (by decide)) b2 (by have := hp.y; omega)
  have q2 := bd_pl q1 b2 (k := p.2.1) (p := 100) (by have := hp.y; omega) (by decide)
  have p3 := rplus_in _ (zT t) p.2.2 (bd_le q2 (by decide)) b3 (by have := hp.z; omega)
  have him := rimages_ok t ht
  unfold trn
  refine COk_quiet Tryz.f134 Tryz.func134 (by kernel_rfl) rfl ?_
  (conv => whnf); repeat ((first | refine ⟨_, _, him _, ?_⟩ | refine ⟨_, him _, ?_⟩ | refine ⟨_, _, p1 _, ?_⟩ | refine ⟨_, p1 _, ?_⟩ | refine ⟨_, _, p2 _, ?_⟩ | refine ⟨_, p2 _, ?_⟩ | refine ⟨_, _, p3 _, ?_⟩ | refine ⟨_, p3 _, ?_⟩ | refine ⟨rfl, ?_⟩ | refine br_d (by omega) ?_ | refine br_nd (by omega) ?_ | refine br_eq (by omega) ?_ | refine br_neq (by omega) ?_ | refine br_ne (by omega) ?_ | refine br_no (bo_eqn (by omega)) ?_ | refine Or.inl ?_ | refine okS_no (by kernel_rfl) ?_ | refine okS_yes (by kernel_rfl) ?_ | refine And_of (by (conv => whnf); (rw [getB_app0]); (conv => whnf)) ?_ | refine setB_app ?_ | refine setB_app0 ?_ | rw [getB_app] | rw [getB_app0] | refine addB_f13 ?_ | refine addB_f12 ?_ | refine addB_f11 ?_ | refine addB_f10 ?_ | refine addB_f9 ?_ | refine addB_f8 ?_ | refine addB_f7 ?_ | refine addB_f6 ?_ | refine addB_f5 ?_ | refine addB_f4 ?_ | refine addB_f3 ?_ | refine addB_f2 ?_ | refine addB_f1 ?_ | refine addB_f0 ?_); conv => whnf)
  first | exact ⟨rfl, _, rfl⟩ | exact ⟨_, rfl⟩
theorem p3_ne {a b : P3} (h : a ≠ b) : (a.1 == b.1 && (a.2.1 == b.2.1 && (a.2.2 == b.2.2 && true))) = false := tri_no fun ⟨h1, h2, h3⟩ => h (Prod.ext h1 (Prod.ext h2 h3))
set_option maxHeartbeats 0 in
theorem rturn_in (n f i j t : Nat) (hn : 1 ≤ n) (hn' : n ≤ 32) (hf : f < 6) (hi : i < n) (hj : j < n) (ht : t < 24) (x : List Blk) :
    COk Tryz.prog 3 89 [I n, I t, I (cellN n f i j)] (GG x) (.tup [I (cellN n (fa t f) (rotI n (qu t f) i j) (rotJ n (qu t f) i j)), I (qu t f)]) (GG x) := by
  refine lift ?_ rfl x
  have hlt := cellN_lt hf hi hj
  have hcI : cellsI n = ((6 * (n * n) : Nat) : Int) := cellsI_n hn hn'
  have hce := rcells_ok n
  rw [hcI] at hce
  obtain ⟨hg, hq⟩ := fa_lt t ht f hf
  have hmi := rmiddle_ok n f i j hn hn' hf hi hj
  have hwy := rway_ok n f i j 0 hn hn' hf hi hj (by decide)
  have hT1 := rturned_ok t ht (midQ n f i j) (bd_le (bd_mid hn' hf hi hj) (by decide))
  have hT2 := rturned_ok t ht (wayQ f 0) (bd_le (bd_way hf (by decide)) (by decide))
  rw [trn_mid ht hf hi hj] at hT1
  rw [trn_east t ht f hf] at hT2
  have hri := rot_lt (q := qu t f) hi hj
  generalize midQ n f i j = m0 at *
  generalize wayQ f 0 = w0 at *
  generalize cellN n f i j = cell at *
  generalize fa t f = g at *
  generalize qu t f = q at *
  generalize rotI n q i j = i' at *
  generalize rotJ n q i j = j' at *
  obtain ⟨hi', hj'⟩ := hri
  obtain ⟨d1, d2, d3⟩ := mid_on (n := n) (i := i') (j := j') hg
  have hoff := fun k hk hne => mid_off (k := k) hn hg hk hne hi' hj'
  have hbm := bd_mid hn' hg hi' hj'
  have hway := fun s hs => rway_ok n g i' j' s hn hn' hg hi' hj' hs
  have hne := fun s hs h => (way_ne g hg s hs q hq).resolve_left h
  have hcl := fun m => rcell_z n g (i' : Int) (j' : Int) hn hn' hg m
  rw [cellZ_in hi' hj' rfl rfl] at hcl
  have hd := fun k (hk : k < 6) => rdot_in (midQ n g i' j') (fC k) (bd_le hbm (by decide)) (bd_fC hk)
  have hdr := rdot_in (midQ n g i' j') (fR g) (bd_le hbm (by decide)) (bd_fR hg)
  have hdu := rdot_in (midQ n g i' j') (fU g) (bd_le hbm (by decide)) (bd_fU hg)
  rw [d2] at hdr
  rw [d3] at hdu
  have hI : ∀ a : Nat, a < n → IntKind.i64.wrap ((IntKind.i64.wrap (IntKind.i64.wrap ((2 * (a : Int) + 1 - n) + n) - 1)).tdiv 2) = a := fun a ha => by
    rw [wrap_id (n := 2 * (a : Int) + 1 - n + n) (by omega) (by omega), wrap_id (n := 2 * (a : Int) + 1 - n + n - 1) (by omega) (by omega), show 2 * (a : Int) + 1 - n + n - 1 = 2 * a by omega, Int.mul_tdiv_cancel_left _ (by decide)]
    exact wrap_id (by omega) (by omega)
  have hIi := hI i' hi'
  have hIj := hI j' hj'
  generalize cellN n g i' j' = dd at *
  have hdg := hd g hg
  rw [d1] at hdg
  refine COk_quiet Tryz.f89 Tryz.func89 (by kernel_rfl) rfl ?_
  (conv => whnf); repeat ((first | refine ⟨_, _, hce _, ?_⟩ | refine ⟨_, hce _, ?_⟩ | refine ⟨_, _, hmi _, ?_⟩ | refine ⟨_, hmi _, ?_⟩ | refine ⟨_, _, hwy _, ?_⟩ | refine ⟨_, hwy _, ?_⟩ | refine ⟨_, _, hT1 _, ?_⟩ | refine ⟨_, hT1 _, ?_⟩ | refine ⟨_, _, hT2 _, ?_⟩ | refine ⟨_, hT2 _, ?_⟩ | refine br_d (by omega) ?_ | refine br_nd (by omega) ?_ | refine br_eq (by omega) ?_ | refine br_neq (by omega) ?_ | refine br_ne (by omega) ?_ | refine br_no (bo_eqn (by omega)) ?_ | refine Or.inl ?_ | refine okS_no (by kernel_rfl) ?_ | refine okS_yes (by kernel_rfl) ?_ | refine And_of (by (conv => whnf); (rw [getB_app0]); (conv => whnf)) ?_ | refine setB_app ?_ | refine setB_app0 ?_ | rw [getB_app] | rw [getB_app0] | refine addB_f13 ?_ | refine addB_f12 ?_ | refine addB_f11 ?_ | refine addB_f10 ?_ | refine addB_f9 ?_ | refine addB_f8 ?_ | refine addB_f7 ?_ | refine addB_f6 ?_ | refine addB_f5 ?_ | refine addB_f4 ?_ | refine addB_f3 ?_ | refine addB_f2 ?_ | refine addB_f1 ?_ | refine addB_f0 ?_); conv => whnf)
  generalize midQ n g i' j' = mm at *
  generalize hE : wayQ g q = east at *
  refine loop_to (fun k => [I n, .any, .any, .any, .any, .any, .any, .any, .ptr 3 0, .ptr 4 0, I k, .any, .any, .any, .any, .any, .any, .any, .any, .any, .any, .any, .any, .any, .any, .any, .any, .any, .any, .any, .any, .any, .any, .any, .any, .any, .any, .any, .any, .any, .any, .any, .any, .any, .any, .any, .any, .any, .any, .any, .any, .any, .any, .any, .any, .any, .any, .any, .any, .any, .any, .any, .any, .any, .any, .any, .any, .any, .any, .any, .any, .any, .any, .any, .any, .any, .any, .any, .any, .any, .any, .any, .any, .any, .any, .any]) (fun _ => GG [bxP mm, bxP east]) 0 g (Nat.zero_le _) ?_ ?_ ?_
  · refine Fg.of [] ?_ rfl (by simp) rfl rfl
    conv => whnf
    exact ⟨rfl, rfl, rfl, rfl, rfl⟩
  · intro k _ hk
    have hk6 : k < 6 := by omega
    have hfk := rframe_ok k hk6
    have hdk := hd k hk6
    have hno := hoff k hk6 (by omega)
    generalize fR k = r at *
    generalize fU k = u at *
    generalize dtP mm (fC k) = dc at *
    generalize fC k = c at *
    (conv => whnf); repeat ((first | refine ⟨_, _, hfk _, ?_⟩ | refine ⟨_, hfk _, ?_⟩ | refine ⟨_, _, hdk _, ?_⟩ | refine ⟨_, hdk _, ?_⟩ | refine br_yes (bne_iff_ne.2 hno) ?_ | refine br_d (by omega) ?_ | refine br_nd (by omega) ?_ | refine br_eq (by omega) ?_ | refine br_neq (by omega) ?_ | refine br_ne (by omega) ?_ | refine br_no (bo_eqn (by omega)) ?_ | refine Or.inl ?_ | refine okS_no (by kernel_rfl) ?_ | refine okS_yes (by kernel_rfl) ?_ | refine And_of (by (conv => whnf); (rw [getB_app0]); (conv => whnf)) ?_ | refine setB_app ?_ | refine setB_app0 ?_ | rw [getB_app] | rw [getB_app0] | refine addB_f13 ?_ | refine addB_f12 ?_ | refine addB_f11 ?_ | refine addB_f10 ?_ | refine addB_f9 ?_ | refine addB_f8 ?_ | refine addB_f7 ?_ | refine addB_f6 ?_ | refine addB_f5 ?_ | refine addB_f4 ?_ | refine addB_f3 ?_ | refine addB_f2 ?_ | refine addB_f1 ?_ | refine addB_f0 ?_); conv => whnf)
    refine Fg.of [bxP c, bxP r, bxP u] ?_ rfl (by simp) rfl rfl
    conv => whnf
    exact ⟨rfl, rfl, rfl, wrapKL (by omega), rfl⟩
  · have hfg := rframe_ok g hg
    generalize fR g = r at *
    generalize fU g = u at *
    generalize fC g = c at *
    (conv => whnf); repeat ((first | refine ⟨_, _, hfg _, ?_⟩ | refine ⟨_, hfg _, ?_⟩ | refine ⟨_, _, hdg _, ?_⟩ | refine ⟨_, hdg _, ?_⟩ | refine br_no (bne_eq_false_iff_eq.2 rfl) ?_ | refine ⟨_, _, hdr _, ?_⟩ | refine ⟨_, hdr _, ?_⟩ | refine ⟨_, _, hdu _, ?_⟩ | refine ⟨_, hdu _, ?_⟩ | rw [hIi] | rw [hIj] | refine ⟨_, _, hcl _, ?_⟩ | refine ⟨_, hcl _, ?_⟩ | refine br_d (by omega) ?_ | refine br_nd (by omega) ?_ | refine br_eq (by omega) ?_ | refine br_neq (by omega) ?_ | refine br_ne (by omega) ?_ | refine br_no (bo_eqn (by omega)) ?_ | refine Or.inl ?_ | refine okS_no (by kernel_rfl) ?_ | refine okS_yes (by kernel_rfl) ?_ | refine And_of (by (conv => whnf); (rw [getB_app0]); (conv => whnf)) ?_ | refine setB_app ?_ | refine setB_app0 ?_ | rw [getB_app] | rw [getB_app0] | refine addB_f13 ?_ | refine addB_f12 ?_ | refine addB_f11 ?_ | refine addB_f10 ?_ | refine addB_f9 ?_ | refine addB_f8 ?_ | refine addB_f7 ?_ | refine addB_f6 ?_ | refine addB_f5 ?_ | refine addB_f4 ?_ | refine addB_f3 ?_ | refine addB_f2 ?_ | refine addB_f1 ?_ | refine addB_f0 ?_); conv => whnf)
    refine loop_to (fun s => [I n, .any, .any, .any, .any, .any, .any, .any, .any, .ptr 4 0, .any, .any, .any, .any, I dd, I s, .any, .any, .any, .any, .any, .any, .any, .any, .any, .any, .any, .any, .any, .any, .any, .any, .any, .any, .any, .any, .any, .any, .any, .any, .any, .any, .any, .any, .any, .any, .any, .any, .any, .any, .any, .any, .any, .any, .any, .any, .any, .any, .any, .any, .any, .any, .any, .any, .any, .any, .any, .any, .any, .any, .any, .any, .any, .any, .any, .any, .any, .any, .any, .any, .any, .any, .any, .any, .any, .any]) (fun _ => GG [bxP mm, bxP east, bxP c, bxP r, bxP u]) 0 q (Nat.zero_le _) ?_ ?_ ?_
    · refine Fg.of [] ?_ rfl (by simp) rfl rfl
      conv => whnf
      exact ⟨rfl, rfl, rfl, rfl, rfl⟩
    · intro s _ hs
      have hws := hway s (by omega)
      have hns := hne s (by omega) (by omega)
      generalize wayQ g s = ws at *
      (conv => whnf); repeat ((first | refine ⟨_, _, hws _, ?_⟩ | refine ⟨_, hws _, ?_⟩ | refine ⟨_, ⟨by kernel_rfl, rfl⟩, ?_⟩ | refine br_no (p3_ne hns) ?_ | refine br_d (by omega) ?_ | refine br_nd (by omega) ?_ | refine br_eq (by omega) ?_ | refine br_neq (by omega) ?_ | refine br_ne (by omega) ?_ | refine br_no (bo_eqn (by omega)) ?_ | refine Or.inl ?_ | refine okS_no (by kernel_rfl) ?_ | refine okS_yes (by kernel_rfl) ?_ | refine And_of (by (conv => whnf); (rw [getB_app0]); (conv => whnf)) ?_ | refine setB_app ?_ | refine setB_app0 ?_ | rw [getB_app] | rw [getB_app0] | refine addB_f13 ?_ | refine addB_f12 ?_ | refine addB_f11 ?_ | refine addB_f10 ?_ | refine addB_f9 ?_ | refine addB_f8 ?_ | refine addB_f7 ?_ | refine addB_f6 ?_ | refine addB_f5 ?_ | refine addB_f4 ?_ | refine addB_f3 ?_ | refine addB_f2 ?_ | refine addB_f1 ?_ | refine addB_f0 ?_); conv => whnf)
      refine Fg.of [] ?_ rfl (by simp) rfl rfl
      conv => whnf
      exact ⟨rfl, rfl, rfl, wrapKL (by omega), rfl⟩
    · have hws := hway q hq
      rw [hE] at hws
      (conv => whnf); repeat ((first | refine ⟨_, _, hws _, ?_⟩ | refine ⟨_, hws _, ?_⟩ | refine ⟨_, ⟨by kernel_rfl, rfl⟩, ?_⟩ | refine br_yes (tri_yes _ _ _) ?_ | refine br_d (by omega) ?_ | refine br_nd (by omega) ?_ | refine br_eq (by omega) ?_ | refine br_neq (by omega) ?_ | refine br_ne (by omega) ?_ | refine br_no (bo_eqn (by omega)) ?_ | refine Or.inl ?_ | refine okS_no (by kernel_rfl) ?_ | refine okS_yes (by kernel_rfl) ?_ | refine And_of (by (conv => whnf); (rw [getB_app0]); (conv => whnf)) ?_ | refine setB_app ?_ | refine setB_app0 ?_ | rw [getB_app] | rw [getB_app0] | refine addB_f13 ?_ | refine addB_f12 ?_ | refine addB_f11 ?_ | refine addB_f10 ?_ | refine addB_f9 ?_ | refine addB_f8 ?_ | refine addB_f7 ?_ | refine addB_f6 ?_ | refine addB_f5 ?_ | refine addB_f4 ?_ | refine addB_f3 ?_ | refine addB_f2 ?_ | refine addB_f1 ?_ | refine addB_f0 ?_); conv => whnf)
      exact ⟨rfl, _, rfl⟩
theorem rturn_c {M : List Blk} (hm : Top M) {n t c : Nat} (hn : 1 ≤ n) (hn' : n ≤ 32) (ht : t < 24) (hc : c < 6 * (n * n)) : COk Tryz.prog 3 89 [I n, I t, I c] M (.tup [I (tC n t c), I (tQ n t c)]) M := by
  obtain ⟨x, rfl⟩ := hm
  obtain ⟨a1, a2, a3, a4⟩ := cell_parts hn hc
  have := rturn_in n (c / (n * n)) (c % n) (c / n % n) t hn hn' a2 a3 a4 ht x
  rw [← a1] at this
  exact this
end Go.Proofs.YtgoljofmbidkfaaGreatDoor
/- Package force: what each function of it answers. No condition. -/
namespace Go.Proofs.YtgoljofmbidkfaaGreatDoor
open Go Go.Eng
set_option maxRecDepth 100000
set_option linter.unusedSimpArgs false
set_option linter.unusedVariables false

/-- What an edge sees of a cell. -/
structure Lk where
  b : Nat
  d : Option Nat
  l : Nat
  w : Bool
abbrev Lk.v (x : Lk) : V := .agg [F x.b, .fl x.d, F x.l, Bo x.w]
def lk (n : Nat) (Be : List Nat) (Wt : List Int) (c : Nat) : Lk := ⟨Be.getD c 0, depthF (Wt.getD c 0) (areaC n c), levelF (Be.getD c 0) (Wt.getD c 0) (areaC n c), decide (Wt.getD c 0 > 0)⟩
abbrev noLk : Lk := ⟨0, some 0, 0, false⟩
def openL (l r : Lk) : Bool := if (!l.w && !r.w) = true then false else if (!l.w && fle (some r.l) (some l.b)) = true then false else if (!r.w && fle (some l.l) (some r.b)) = true then false else true
/-- What a plan says of forces. -/
structure PlF where
  dt : Nat
  gr : Nat
  dr : Nat
abbrev oneW : Nat := 4607182418800017408
abbrev topW : Nat := 4652218415073722368
abbrev lowW : Nat := 13875590451928498176
def pullF (p : PlF) (l r : Lk) (gap : Nat) : Option Nat := fdiv (fmul (fmul (some p.gr) (some p.dt)) (fsub (some r.l) (some l.l))) (some gap)
def capF (o : Option Nat) : Nat := if fgt o (some topW) = true then topW else if flt o (some lowW) = true then lowW else if fne o o = true then 0 else canonF o
def goF (p : PlF) (u h : Option Nat) : Option Nat := fdiv u (fadd (some oneW) (fdiv (fmul (fmul (some p.dr) (some p.dt)) (absO u)) h))
def midF (l r : Lk) : Option Nat := fmul (some halfB) (fadd l.d r.d)
def speedL (p : PlF) (l r : Lk) (gap s : Nat) : Nat :=
  if openL l r = true then (if fgt (midF l r) (some 0) = true then capF (goF p (fsub (some s) (pullF p l r gap)) (midF l r)) else 0) else 0
/-- A sea that fits a net. -/
structure Fit (n : Nat) (a b c d : Nat) : Prop where
  a : a = 6 * (n * n)
  b : b = 6 * (n * n)
  c : c = 6 * (n * n)
  d : d = (edges n).length
section
variable {M : List Blk} {b n : Nat} (N : Net M b n) {j0 j1 j2 j3 : Nat} {Be : List Nat} {Wt Tr : List Int} {Sp : List Nat} (S : SeaR M j0 j1 j2 j3 Be Wt Tr Sp) (sky step : Int)
include N
include S
variable (hf : Fit n Be.length Wt.length Tr.length Sp.length)
include hf
/-- A plan: what its speeds hang on, and the rest. -/
abbrev planV (side : Int) (p : PlF) (lim : Int) (riv : Bool) (ra : Option Addr) (rl rc : Nat) : V := .agg [I side, F p.dt, F p.gr, F p.dr, I lim, Bo riv, .raw (.slice ra rl rc)]
def speedE (n : Nat) (p : PlF) (Be : List Nat) (Wt : List Int) (Sp : List Nat) (e : Nat) (x : Ed) : Nat := speedL p (lk n Be Wt x.1) (lk n Be Wt x.2.2.1) (gpE n x) (Sp.getD e 0)
end
/-- The speeds over the edges behind a step. -/
def speedT (n : Nat) (p : PlF) (Be : List Nat) (Wt : List Int) (Sp : List Nat) (e : Nat) : Nat := match (edges n)[e]? with
  | some x => speedE n p Be Wt Sp e x
  | none => 0
theorem SlF.tab {M : List Blk} {j : Nat} {w : Bool} {N : Nat} {G : Nat → Nat} (h : getB M j = ⟨w, .flts (tab N G)⟩) (hw : ∀ i, i < N → inF (G i)) (hs : N < 4611686018427387904) : SlF M j 0 (tab N G) :=
  SlF.flts h (fun i hi => ⟨by omega, by rw [Nat.zero_add]⟩) (fun i hi => by
    rw [tab_len] at hi
    rw [tab_get hi]; exact hw i hi) (by rw [tab_len]; exact hs)
section
variable {M : List Blk} {b n : Nat} (hsc : scM M.length M = true) (N : Net M b n) {j0 j1 j2 j3 : Nat} {Be : List Nat} {Wt Tr : List Int} {Sp : List Nat} (S : SeaR M j0 j1 j2 j3 Be Wt Tr Sp) (sky step : Int) (hf : Fit n Be.length Wt.length Tr.length Sp.length) (hn : 1 ≤ n) (hn' : n ≤ 32)
include hsc N S hf hn hn'
end
end Go.Proofs.YtgoljofmbidkfaaGreatDoor
/- Plain facts of forces: noughts, bounds, mirrored edges. No condition. -/
namespace Go.Proofs.YtgoljofmbidkfaaGreatDoor
open Go Go.Eng Ieee
set_option maxRecDepth 100000
set_option linter.unusedSimpArgs false
set_option linter.unusedVariables false

/-- A nought of either sign, or a NaN. -/
def Zn (o : Option Nat) : Prop := o = none ∨ ∃ s, o = some (wd s 0)
/-! ### Bounds -/
def Bnd (v : Nat) : Prop := fge (some v) (some lowW) = true ∧ fle (some v) (some topW) = true ∧ canonF (some v) = v
/-- Opposites, noughts apart. -/
def Opp (x y : Option Nat) : Prop := (x = none ∧ y = none) ∨ (∃ s t, x = some (wd s 0) ∧ y = some (wd t 0)) ∨ ∃ s R, R ≤ infR ∧ x = some (wd s R) ∧ y = some (wd (!s) R)
end Go.Proofs.YtgoljofmbidkfaaGreatDoor
/- Plain facts of reconstruction over a flat bed. No condition. -/
namespace Go.Proofs.YtgoljofmbidkfaaGreatDoor
open Go Go.Eng Ieee
set_option maxRecDepth 100000
set_option linter.unusedSimpArgs false
set_option linter.unusedVariables false

/-- A depth's word. -/
def Dep (o : Option Nat) (R : Nat) : Prop := o = some R ∧ R < infR ∧ (R = 0 ∨ (2 : Rat) ^ (-1000 : Int) ≤ vR R)
end Go.Proofs.YtgoljofmbidkfaaGreatDoor
/- Sizes as whole numbers: the nearest, half to even. No condition. -/
namespace Go.Proofs.YtgoljofmbidkfaaGreatDoor
open Go Go.Eng Ieee
set_option maxRecDepth 100000
set_option linter.unusedSimpArgs false
set_option linter.unusedVariables false

def nearN (K s : Nat) : Nat := if 2 ^ s < 2 * (K % 2 ^ s) ∨ (2 ^ s = 2 * (K % 2 ^ s) ∧ K / 2 ^ s % 2 = 1) then K / 2 ^ s + 1 else K / 2 ^ s
/-- The whole number nearest to a size below 2^63. -/
def nearZ (R : Nat) : Nat := if R < 4503599627370496 then nearN R 1074 else if R / 4503599627370496 - 1 < 1074 then nearN (R % 4503599627370496 + 4503599627370496) (1075 - R / 4503599627370496) else (R % 4503599627370496 + 4503599627370496) * 2 ^ (R / 4503599627370496 - 1075)
section
variable {u d l t : Nat} (hu : u < 18446744073709551616) (hd : d < 18446744073709551616) (hl : l < 18446744073709551616) (ht : t < 18446744073709551616)
  (gd : fgt (some d) (some 0) = true) (gl : fgt (some l) (some 0) = true) (gt : fgt (some t) (some 0) = true)
include hu hd hl ht gd gl gt
end
end Go.Proofs.YtgoljofmbidkfaaGreatDoor
/- Whole numbers as floats, as the reference makes them. No condition. -/
namespace Go.Proofs.YtgoljofmbidkfaaGreatDoor
open Go Go.Eng Ieee
set_option maxRecDepth 100000
set_option linter.unusedSimpArgs false
set_option linter.unusedVariables false

/-- The word of a whole number without a sign. -/
def smallW (m : Nat) : Nat := if m = 0 then 0 else if m.log2 < 52 then (1022 + m.log2) * 4503599627370496 + m * 2 ^ (52 - m.log2) else if m.log2 = 52 then 1074 * 4503599627370496 + m else (1022 + m.log2) * 4503599627370496 + nearN m (m.log2 - 52)
theorem mag_wd (s : Bool) {R : Nat} (h : R ≤ infR) : wd s R % 9223372036854775808 = R := by
  have h1 := infR_lt
  cases s
  · rw [wd_false]; omega
  · rw [wd_true]; omega
theorem nanB_mag {b : Nat} (h : nanB b) : infR < b % 9223372036854775808 := h.2
/-- A NaN, by its bits. -/
theorem none_is {b : Nat} (hb : b < 18446744073709551616) : fne (some b) (some b) = decide (infR < b % 9223372036854775808) := by
  rcases nan_or hb with h | ⟨s, R, hR, rfl⟩
  · rw [decide_eq_true (nanB_mag h)]
    unfold fne
    rw [(nan_cmp h _).1]; rfl
  · rw [fne_rk s s hR hR, mag_wd s hR, decide_eq_false (by omega)]
    simp [hR]
/-- A nought, by its bits. -/
theorem zero_is {b : Nat} (hb : b < 18446744073709551616) : feq (some b) (some 0) = decide (b % 9223372036854775808 = 0) := by
  rcases nan_or hb with h | ⟨s, R, hR, rfl⟩
  · rw [decide_eq_false (by have := nanB_mag h; omega)]
    unfold feq
    rw [(nan_cmp h _).1]; rfl
  · have e : feq (some (wd s R)) (some 0) = decide (rk s R = rk false 0) := feq_rk s false hR (Nat.zero_le _)
    rw [e, mag_wd s hR]
    unfold rk
    cases s <;> exact decide_eq_decide.2 (by simp)
def canonR (b : Nat) : Nat := if infR < b % 9223372036854775808 then qn else if b % 9223372036854775808 = 0 then 0 else b
theorem canonR_is {b : Nat} (hb : b < 18446744073709551616) : canonF (some b) = canonR b := by
  unfold canonF canonR
  rw [none_is hb, zero_is hb]
  simp only [decide_eq_true_eq, Option.getD_some]
def quietR (b : Nat) : Nat := if infR < b % 9223372036854775808 then qn else b
def plN (b : Nat) : Int := if b < 9223372036854775808 then 9223372036854775808 + (b : Int) else 18446744073709551615 - (b : Int)
/-- The reference's order. -/
def orderR (x y : Nat) : Int := if x = y then 0 else if 9223372036854775808 ≤ x ∧ 9223372036854775808 ≤ y then (if y < x then -1 else 1) else if 9223372036854775808 ≤ x then -1 else if 9223372036854775808 ≤ y then 1 else if x < y then -1 else 1
/-- Does y come ahead of x among three? -/
def aheadR (x y : Nat) : Bool := decide (x % 9223372036854775808 < y % 9223372036854775808 ∨ (x % 9223372036854775808 = y % 9223372036854775808 ∧ orderR x y < 0))
/-- Three numbers in the reference's order: exchanged where they stand wrong. -/
def sortR (a b c : Nat) : Nat × Nat × Nat :=
  let p := if aheadR b a then (b, a) else (a, b)
  let q := if aheadR c p.2 then (c, p.2) else (p.2, c)
  let r := if aheadR q.1 p.1 then (q.1, p.1) else (p.1, q.1)
  (r.1, r.2, q.2)
/-! ### Slopes -/
/-- The lesser, the greater of two floats, as the reference takes them. -/
def lessO (x y : Option Nat) : Option Nat := if flt y x = true then y else x
def moreO (x y : Option Nat) : Option Nat := if fgt y x = true then y else x
/-! ### Lengths -/
def classR (b : Nat) : Int := if b % 9223372036854775808 = 0 then 0 else if b % 9223372036854775808 < 4503599627370496 then 1 else if b % 9223372036854775808 < infR then 2 else if b % 9223372036854775808 = infR then 3 else 4
end Go.Proofs.YtgoljofmbidkfaaGreatDoor
/- The reference's bits, whole numbers as floats, sums of three, vectors. No condition. -/
namespace Go.Proofs.YtgoljofmbidkfaaGreatDoor
open Go Go.Eng Ieee
set_option maxRecDepth 100000
set_option linter.unusedSimpArgs false
set_option linter.unusedVariables false

abbrev Wd (o : Option Nat) : Prop := ∀ b, o = some b → b < 18446744073709551616
theorem rmag_ok (b : Nat) (m : List Blk) : COk Tryz.prog 3 137 [F b] m (U ((b % 9223372036854775808 : Nat) : Int)) m := by
  refine COk_quiet Tryz.f137 Tryz.func137 (by kernel_rfl) rfl ?_
  (conv => whnf); repeat (refine ⟨_, _, bits_ok _ _, ?_⟩; conv => whnf)
  exact ⟨rfl, [], by simp⟩
theorem rnoneB_ok (b : Nat) (m : List Blk) : COk Tryz.prog 3 135 [F b] m (Bo (decide (((b % 9223372036854775808 : Nat) : Int) > 9218868437227405312))) m := by
  refine COk_quiet Tryz.f135 Tryz.func135 (by kernel_rfl) rfl ?_
  (conv => whnf); repeat (refine ⟨_, _, rmag_ok _ _, ?_⟩; conv => whnf)
  exact ⟨rfl, [], by simp⟩
theorem rnone_w {b : Nat} (hb : b < 18446744073709551616) (m : List Blk) : COk Tryz.prog 3 135 [F b] m (Bo (fne (some b) (some b))) m := by
  have h := rnoneB_ok b m
  have e : decide (((b % 9223372036854775808 : Nat) : Int) > 9218868437227405312) = fne (some b) (some b) := by
    rw [none_is hb, infR_eq]
    exact decide_eq_decide.2 (by omega)
  rwa [e] at h
theorem fne_nan {b : Nat} (h : nanB b) : fne (some b) (some b) = true := by
  unfold fne; rw [(nan_cmp h _).1]; rfl
theorem rfrom_ok (z : Int) (m : List Blk) : COk Tryz.prog 3 87 [U z] m (F z.toNat) m := by
  have h := frombitsZ_ok z m
  refine COk_quiet Tryz.f87 Tryz.func87 (by kernel_rfl) rfl ?_
  (conv => whnf); repeat (refine ⟨_, _, h, ?_⟩; conv => whnf)
  exact ⟨rfl, [], by simp⟩
theorem rquiet_ok (m : List Blk) : COk Tryz.prog 3 136 [] m (F qn) m := by
  have h := rfrom_ok 9221120237041090561 m
  refine COk_quiet Tryz.f136 Tryz.func136 (by kernel_rfl) rfl ?_
  (conv => whnf); repeat (refine ⟨_, _, h, ?_⟩; conv => whnf)
  exact ⟨rfl, [], by simp⟩
theorem rcanon_w {b : Nat} (hb : b < 18446744073709551616) (m : List Blk) : COk Tryz.prog 3 92 [F b] m (F (canonF (some b))) m := by
  have hn := rnone_w hb
  have hm := rmag_ok b
  rw [canonR_is hb]
  unfold canonR
  rw [none_is hb] at hn
  by_cases h1 : infR < b % 9223372036854775808
  · rw [if_pos h1]
    rw [decide_eq_true h1] at hn
    refine COk_quiet Tryz.f92 Tryz.func92 (by kernel_rfl) rfl ?_
    (conv => whnf); repeat ((first | refine ⟨_, _, hn _, ?_⟩ | refine ⟨_, _, rquiet_ok _, ?_⟩); conv => whnf)
    exact ⟨rfl, [], by simp⟩
  rw [if_neg h1]
  rw [decide_eq_false h1] at hn
  generalize b % 9223372036854775808 = p at *
  have hz := rfrom_ok 0
  by_cases h0 : p = 0
  · rw [if_pos h0]
    refine COk_quiet Tryz.f92 Tryz.func92 (by kernel_rfl) rfl ?_
    (conv => whnf); repeat ((first | refine ⟨_, _, hn _, ?_⟩ | refine ⟨_, _, hm _, ?_⟩ | refine br_yes (beq_iff_eq.2 (by omega)) ?_ | refine ⟨_, _, hz _, ?_⟩); conv => whnf)
    exact ⟨rfl, [], by simp⟩
  · rw [if_neg h0]
    have n0 : (((p : Nat) : Int) == 0) = false := beq_eq_false_iff_ne.2 (by omega)
    refine COk_quiet Tryz.f92 Tryz.func92 (by kernel_rfl) rfl ?_
    (conv => whnf); repeat ((first | refine ⟨_, _, hn _, ?_⟩ | refine ⟨_, _, hm _, ?_⟩ | refine br_no n0 ?_); conv => whnf)
    exact ⟨rfl, [], by simp⟩
theorem rcanon_ok {o : Option Nat} (hb : Wd o) (m : List Blk) : COk Tryz.prog 3 92 [.fl o] m (F (canonF o)) m := by
  cases o with
  | some b => exact rcanon_w (hb b rfl) m
  | none =>
    refine COk_bits [] (bs := []) (fun b hn => ?_)
    have h := rcanon_w (b := b) (by have := hn.1; omega) m
    have e : canonF (some b) = canonF none := by unfold canonF; rw [fne_nan hn]; rfl
    rwa [e] at h
end Go.Proofs.YtgoljofmbidkfaaGreatDoor
/- The reference's sums of three, vectors, whole numbers as floats. No condition. -/
namespace Go.Proofs.YtgoljofmbidkfaaGreatDoor
open Go Go.Eng Ieee
set_option maxRecDepth 100000
set_option linter.unusedSimpArgs false
set_option linter.unusedVariables false

end Go.Proofs.YtgoljofmbidkfaaGreatDoor
/- The reference's points, lengths and areas. No condition. -/
namespace Go.Proofs.YtgoljofmbidkfaaGreatDoor
open Go Go.Eng Ieee
set_option maxRecDepth 100000
set_option linter.unusedSimpArgs false
set_option linter.unusedVariables false

def tabC : Nat → Int | 0 => 1 | 1 => 2 | 2 => -1 | 3 => -2 | 4 => 3 | _ => -3
def tabR : Nat → Int | 0 => 2 | 1 => -1 | 2 => -2 | 3 => 1 | 4 => 2 | _ => 2
def tabU : Nat → Int | 0 => 3 | 1 => 3 | 2 => 3 | 3 => 3 | 4 => -1 | _ => 1
end Go.Proofs.YtgoljofmbidkfaaGreatDoor
/- The reference's Clamp, by a float's bits. No condition. -/
namespace Go.Proofs.YtgoljofmbidkfaaGreatDoor
open Go Go.Eng Ieee
set_option maxRecDepth 100000
set_option linter.unusedSimpArgs false
set_option linter.unusedVariables false

abbrev fldI (b : Nat) : Int := IntKind.i64.wrap ((((b : Nat) : Int).fdiv (2 ^ min (Int.toNat 52) IntKind.u64.bits)).tmod 2048)
abbrev sgB (b : Nat) : Bool := ((b : Nat) : Int).fdiv (2 ^ min (Int.toNat 63) IntKind.u64.bits) == 1
abbrev mI (b : Nat) : Int := ((b : Nat) : Int).tmod 4503599627370496
abbrev qI (K s : Int) : Int := K.fdiv (2 ^ min (IntKind.u64.wrap s).toNat IntKind.u64.bits)
abbrev rI (K s : Int) : Int := IntKind.u64.wrap (K - IntKind.u64.wrap (qI K s * 2 ^ min (IntKind.u64.wrap s).toNat IntKind.u64.bits))
abbrev hI (s : Int) : Int := IntKind.u64.wrap (1 * 2 ^ min (IntKind.u64.wrap (IntKind.i64.wrap (s - 1))).toNat IntKind.u64.bits)
abbrev gI (s : Int) : Int := (9223372036854775808 : Int).fdiv (2 ^ min (IntKind.u64.wrap s).toNat IntKind.u64.bits)
abbrev restI (K s : Int) : Int := if (rI K s == 0) = true then 0 else if decide (rI K s < hI s) = true then 1 else if (rI K s == hI s) = true then 2 else 3
def endI (g : Bool) (r : Int) : Int := if g = true then IntKind.i64.wrap (0 - IntKind.i64.wrap (if decide (r > IntKind.u64.wrap q52) = true then IntKind.u64.wrap q52 else r)) else IntKind.i64.wrap (if decide (r > IntKind.u64.wrap q52) = true then IntKind.u64.wrap q52 else r)
abbrev shI (K e : Int) : Int := IntKind.u64.wrap (K * 2 ^ min (IntKind.u64.wrap e).toNat IntKind.u64.bits)
end Go.Proofs.YtgoljofmbidkfaaGreatDoor
/- The reference's whole numbers as floats, roundings. No condition. -/
namespace Go.Proofs.YtgoljofmbidkfaaGreatDoor
open Go Go.Eng Ieee
set_option maxRecDepth 100000
set_option linter.unusedSimpArgs false
set_option linter.unusedVariables false

/-! ### Round -/
end Go.Proofs.YtgoljofmbidkfaaGreatDoor
/- The reference's corners, middles, lengths, gaps and areas. No condition. -/
namespace Go.Proofs.YtgoljofmbidkfaaGreatDoor
open Go Go.Eng Ieee
set_option maxRecDepth 100000
set_option linter.unusedSimpArgs false
set_option linter.unusedVariables false

end Go.Proofs.YtgoljofmbidkfaaGreatDoor
/- Questions to the reference's net, and to none; what the program's net answers where nothing is. No condition. -/
namespace Go.Proofs.YtgoljofmbidkfaaGreatDoor
open Go Go.Eng
set_option maxRecDepth 100000
set_option linter.unusedSimpArgs false
set_option linter.unusedVariables false

/-! ### Nothing is known of what is not there -/
def Inside (n : Nat) (f : Int → Int → Option Int) : Prop := ∀ a t : Int, f a t ≠ none → (0 ≤ a ∧ a < ((6 * (n * n) : Nat) : Int)) ∧ 0 ≤ t ∧ t < 4
/-! ### The reference's net -/
abbrev nilP : V := .raw (.pointer none)
section
variable {m : List Blk} {b n : Nat} (N : RNet m b n)
include N
theorem rside_ok : COk Tryz.prog 3 121 [.ptr (b + 1) 0] m (I n) m := by
  refine COk_quiet Tryz.f121 Tryz.func121 (by kernel_rfl) rfl ?_
  (conv => whnf); repeat (rw [N.gr]; conv => whnf)
  exact ⟨rfl, [], by simp⟩
theorem rgedges_ok : COk Tryz.prog 3 65 [.ptr (b + 1) 0] m (I (edges n).length) m := by
  refine COk_quiet Tryz.f65 Tryz.func65 (by kernel_rfl) rfl ?_
  (conv => whnf); repeat (rw [N.gr]; conv => whnf)
  exact ⟨rfl, [], by simp⟩
theorem rgcells_ok (hn : 1 ≤ n) (hn' : n ≤ 32) : COk Tryz.prog 3 58 [.ptr (b + 1) 0] m (I (6 * (n * n) : Nat)) m := by
  have hc := rcells_ok n m
  rw [show cellsI n = ((6 * (n * n) : Nat) : Int) by rw [cellsI, if_pos ⟨by omega, by omega⟩]; simp] at hc
  refine COk_quiet Tryz.f58 Tryz.func58 (by kernel_rfl) rfl ?_
  (conv => whnf); repeat ((first | refine ⟨_, _, rside_ok N, ?_⟩ | refine ⟨_, _, hc, ?_⟩); conv => whnf)
  exact ⟨rfl, [], by simp⟩
theorem redge_ok (e : Nat) (x : Ed) (hx : (edges n)[e]? = some x) : COk Tryz.prog 3 90 [.ptr (b + 1) 0, I e] m (.tup [.agg [I x.1, I x.2.1, I x.2.2.1, I x.2.2.2], Bo true]) m := by
  have he : e < (edges n).length := (List.getElem?_eq_some_iff.1 hx).1
  obtain ⟨r1, r2, r3, r4⟩ := flatE_get (edges n) e _ hx
  have hfl := flatE_len (edges n)
  have hbl : ∀ j, j < (flatE (edges n)).length → Nat.blt j (flatE (edges n)).length = true := fun j hj => by simpa using hj
  refine COk_quiet Tryz.f90 Tryz.func90 (by kernel_rfl) rfl ?_
  (conv => whnf); repeat ((first | refine ⟨_, _, rgedges_ok (N.more _), ?_⟩ | refine br_d ⟨by omega, by omega⟩ ?_ | rw [(N.more _).gr] | rw [(N.more _).ed] | refine br_yes (hbl (0 + e * 4) (by omega)) ?_ | refine br_yes (hbl (0 + e * 4 + 1) (by omega)) ?_ | refine br_yes (hbl (0 + e * 4 + 1 + 1) (by omega)) ?_ | refine br_yes (hbl (0 + e * 4 + 1 + 1 + 1) (by omega)) ?_ | refine br_nd (by omega) ?_ | refine setB_app0 ?_ | rw [getB_app0] | refine addB_f0 ?_); conv => whnf)
  refine ⟨?_, _, rfl⟩
  show V.tup [.agg [I ((flatE (edges n)).getD (0 + e * 4) 0), I ((flatE (edges n)).getD (0 + e * 4 + 1) 0), I ((flatE (edges n)).getD (0 + e * 4 + 1 + 1) 0), I ((flatE (edges n)).getD (0 + e * 4 + 1 + 1 + 1) 0)], Bo true] = _
  rw [Nat.zero_add, r1, r2, r3, r4]
theorem raround_ok (hn : 1 ≤ n) (hn' : n ≤ 32) {c s : Nat} (hc : c < 6 * (n * n)) (hs : s < 4) (e : Nat) (x : Ed) (h : numF n c s = some (e : Int)) (hx : (edges n)[e]? = some x) : COk Tryz.prog 3 91 [.ptr (b + 1) 0, I c, I s] m (.tup [I e, I (if (x.1 : Int) = c then 1 else -1)]) m := by
  have hN : 6 * (n * n) ≤ 6144 := by
    have h2 : n * n ≤ 32 * 32 := Nat.mul_le_mul hn' hn'
    omega
  have he : e < (edges n).length := (List.getElem?_eq_some_iff.1 hx).1
  obtain ⟨r1, r2, r3, r4⟩ := flatE_get (edges n) e _ hx
  have hfl := flatE_len (edges n)
  have c3 : Tryz.prog.cellsOf 3 = 1 := by kernel_rfl
  have hw : IntKind.i64.wrap (IntKind.i64.wrap (4 * (c : Int)) + s) = ((4 * c + s : Nat) : Int) := by first | (simp (disch := omega) only [wrap_id]; done) | (simp (disch := omega) only [wrap_id]; omega)
  have hb1 : (0 + ((4 * c + s : Nat) : Int).toNat * Tryz.prog.cellsOf 3).blt (arF (6 * (n * n)) (numF n)).length = true := by
    rw [c3, arF_len]; show Nat.blt (0 + (4 * c + s) * 1) _ = true; first | (simp; done) | (simp; omega)
  have hg1 : (arF (6 * (n * n)) (numF n)).getD (0 + ((4 * c + s : Nat) : Int).toNat * Tryz.prog.cellsOf 3) 0 = (e : Int) := by
    rw [c3, show 0 + ((4 * c + s : Nat) : Int).toNat * 1 = 4 * c + s by rw [Int.toNat_natCast]; omega, arF_get hc hs, h]; rfl
  have hb2 : Nat.blt (0 + e * 4) (flatE (edges n)).length = true := by first | (simp; done) | (simp; omega)
  have hg2 : (flatE (edges n)).getD (0 + e * 4) 0 = x.1 := by rw [Nat.zero_add]; exact r1
  by_cases hx1 : (x.1 : Int) = c
  · rw [if_pos hx1]
    refine COk_quiet Tryz.f91 Tryz.func91 (by kernel_rfl) rfl ?_
    (conv => whnf); repeat ((first | refine ⟨_, _, rgcells_ok N hn hn', ?_⟩ | rw [N.gr] | rw [hw] | refine br_d (by omega) ?_ | refine br_nd (by omega) ?_); conv => whnf)
    (conv => whnf); repeat ((first | rw [N.ar] | refine br_yes hb1 ?_); conv => whnf)
    rw [hg1]
    (conv => whnf); repeat ((first | rw [N.gr] | rw [N.ed] | refine br_yes hb2 ?_ | refine br_d (by omega) ?_); conv => whnf)
    refine br_yes (show ((flatE (edges n)).getD (0 + e * 4) 0 == (c : Int)) = true by rw [hg2]; exact beq_iff_eq.2 hx1) ?_
    (conv => whnf); repeat ((first | refine br_d (by omega) ?_ | refine br_nd (by omega) ?_ | refine br_eq (by omega) ?_ | refine br_neq (by omega) ?_ | refine br_ne (by omega) ?_ | refine br_no (bo_eqn (by omega)) ?_ | refine Or.inl ?_ | refine okS_no (by kernel_rfl) ?_ | refine okS_yes (by kernel_rfl) ?_ | refine And_of (by (conv => whnf); (rw [getB_app0]); (conv => whnf)) ?_ | refine setB_app ?_ | refine setB_app0 ?_ | rw [getB_app] | rw [getB_app0] | refine addB_f13 ?_ | refine addB_f12 ?_ | refine addB_f11 ?_ | refine addB_f10 ?_ | refine addB_f9 ?_ | refine addB_f8 ?_ | refine addB_f7 ?_ | refine addB_f6 ?_ | refine addB_f5 ?_ | refine addB_f4 ?_ | refine addB_f3 ?_ | refine addB_f2 ?_ | refine addB_f1 ?_ | refine addB_f0 ?_); conv => whnf)
    exact ⟨rfl, [], by simp⟩
  · rw [if_neg hx1]
    refine COk_quiet Tryz.f91 Tryz.func91 (by kernel_rfl) rfl ?_
    (conv => whnf); repeat ((first | refine ⟨_, _, rgcells_ok N hn hn', ?_⟩ | rw [N.gr] | rw [hw] | refine br_d (by omega) ?_ | refine br_nd (by omega) ?_); conv => whnf)
    (conv => whnf); repeat ((first | rw [N.ar] | refine br_yes hb1 ?_); conv => whnf)
    rw [hg1]
    (conv => whnf); repeat ((first | rw [N.gr] | rw [N.ed] | refine br_yes hb2 ?_ | refine br_d (by omega) ?_); conv => whnf)
    refine br_no (show ((flatE (edges n)).getD (0 + e * 4) 0 == (c : Int)) = false by rw [hg2]; exact beq_eq_false_iff_ne.2 hx1) ?_
    (conv => whnf); repeat ((first | refine br_d (by omega) ?_ | refine br_nd (by omega) ?_ | refine br_eq (by omega) ?_ | refine br_neq (by omega) ?_ | refine br_ne (by omega) ?_ | refine br_no (bo_eqn (by omega)) ?_ | refine Or.inl ?_ | refine okS_no (by kernel_rfl) ?_ | refine okS_yes (by kernel_rfl) ?_ | refine And_of (by (conv => whnf); (rw [getB_app0]); (conv => whnf)) ?_ | refine setB_app ?_ | refine setB_app0 ?_ | rw [getB_app] | rw [getB_app0] | refine addB_f13 ?_ | refine addB_f12 ?_ | refine addB_f11 ?_ | refine addB_f10 ?_ | refine addB_f9 ?_ | refine addB_f8 ?_ | refine addB_f7 ?_ | refine addB_f6 ?_ | refine addB_f5 ?_ | refine addB_f4 ?_ | refine addB_f3 ?_ | refine addB_f2 ?_ | refine addB_f1 ?_ | refine addB_f0 ?_); conv => whnf)
    exact ⟨rfl, [], by simp⟩
end
section
variable {m : List Blk} {b n : Nat} (hm : Top m) (N : RNet m b n)
include hm N
end
/-! ### The program's net where nothing is -/
section
variable {m : List Blk} {b n : Nat} (N : Net m b n)
include N
end
/-! ### None -/
end Go.Proofs.YtgoljofmbidkfaaGreatDoor
