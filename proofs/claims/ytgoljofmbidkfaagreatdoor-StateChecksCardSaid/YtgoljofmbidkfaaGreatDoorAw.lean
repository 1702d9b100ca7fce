/- Package tarnlaw20: awake, wide. No condition. -/
import Derived.Test.YtgoljofmbidkfaaGreatDoorLa
import Derived.Test.YtgoljofmbidkfaaGreatDoorTd2
namespace Go.Proofs.YtgoljofmbidkfaaGreatDoor
open Go Go.Eng
set_option maxRecDepth 100000
set_option linter.unusedSimpArgs false
set_option linter.unusedVariables false

abbrev one1 : Nat := 4607182418800017408
abbrev ar1 : Int := 1431655765
theorem area1' : ∀ c, c < 6 → areaC 1 c = ar1 := by decide +kernel
theorem plan_dt {x : Int} (hx : cellsI x = 6) (d g r lim : Nat) (hd : fgt (some d) (some 0) = false) (riv : Bool) (vR : V) (ho : vR.one = true) (M : List Blk) : COk Tryz.prog 3 23 [.agg [I x, F d, F g, F r, I lim, Bo riv, vR]] M (I 11) M := by
  have hc := fun m => cells_ok x m
  rw [hx] at hc
  have hone : allOne [I x, F d, F g, F r, I lim, Bo riv, vR] = true := by simp only [allOne, ho]; rfl
  refine COk_quiet Tryz.f23 Tryz.func23 (by kernel_rfl) rfl ?_
  (conv => whnf); repeat ((first | refine br_yes hone ?_ | refine ⟨_, _, hc _, ?_⟩ | refine br_yes (congrArg not hd) ?_ | refine setB_app ?_ | rw [getB_app] | rw [getB_app0] | refine addB_f1 ?_ | refine addB_f0 ?_); conv => whnf)
  exact ⟨rfl, _, rfl⟩
abbrev z6F : List Nat := List.replicate 6 0
abbrev z6I : List Int := List.replicate 6 0
abbrev z12 : List Nat := List.replicate 12 0
theorem nothing_ok {M : List Blk} (hsc : scM M.length M = true) : COk Tryz.prog 3 67 [] M (seaV (M.length + 1) (M.length + 2) (M.length + 3) (M.length + 4) 6 6 6 12 0 0) (M ++ [sBx (.sl (M.length + 1) 0 6) (.sl (M.length + 2) 0 6) (.sl (M.length + 3) 0 6) (.sl (M.length + 4) 0 12) 0 0, ⟨true, .flts z6F⟩, ⟨true, .ints .i64 z6I⟩, ⟨true, .ints .i64 z6I⟩, ⟨true, .flts z12⟩]) := by
  refine COk_of_ev Tryz.f67 Tryz.func67 (by kernel_rfl) (by simp) (by simp [V.sc, scL]) (.inr (scM_app (scM_mono (by simp) _ hsc) (by simp [scM, B.sc, scL, V.sc]))) ?_
  (conv => whnf); repeat ((first | refine Or.inl ?_ | refine setB_app0 ?_ | rw [getB_app0] | refine addB_f4 ?_ | refine addB_f3 ?_ | refine addB_f2 ?_ | refine addB_f1 ?_ | refine addB_f0 ?_); conv => whnf)
  exact ⟨rfl, [], by rw [List.append_nil]; rfl⟩
/-- The bed that is too high. -/
abbrev bad4 : Nat := 4701340746312056832
theorem chk_bad : chkF 1 (z6F.set 4 bad4) z6I z6I z12 0 0 = (4, 13) := by decide +kernel
theorem lak_1 : lakW 1 z6F one1 = fun c => lakW 1 z6F one1 c := rfl
theorem lak_at : ∀ c, c < 6 → lakW 1 z6F one1 c = ar1 := by
  intro c hc
  unfold lakW
  rw [area1' c hc, show z6F.getD c 0 = 0 by rw [List.getD_eq_getElem?_getD, List.getElem?_replicate, if_pos hc]; rfl]
  decide +kernel
theorem lak_tab : tab z6F.length (lakW 1 z6F one1) = List.replicate 6 ar1 := by
  rw [show z6F.length = 6 from rfl, tab_rep]
  exact tab_congr lak_at
theorem lak_q : quI (tab z6F.length (lakW 1 z6F one1)) 0 = -1 := by rw [lak_tab]; decide +kernel
theorem lak_b : ¬ 0 ≤ flI z6F mxH := by decide +kernel
theorem lak_h : highB one1 = true := by decide +kernel
theorem edges12 : (edges 1).length = 12 := edges_len (n := 1) (by decide)
theorem lak_ok : SeaOk 1 z6F (List.replicate 6 ar1) z6I (z12.set 0 one1) 0 0 := by
  have h : (chkF 1 z6F (List.replicate 6 ar1) z6I (z12.set 0 one1) 0 0).2 = 0 := by decide +kernel
  obtain ⟨n, hn, O⟩ := chk_ok h
  obtain rfl : n = 1 := by omega
  exact O
theorem lak_diff : sameB (z6F, List.replicate 6 ar1, z6I, z12, 0, 0) (z6F, List.replicate 6 ar1, z6I, z12.set 0 one1, 0, 0) = false := by decide +kernel
abbrev tailT (L : Nat) : List Blk := [sBx (.sl (L + 2) 0 6) (.sl (L + 3) 0 6) (.sl (L + 4) 0 6) (.sl (L + 5) 0 12) 0 0, sBx (.sl (L + 2) 0 6) (.sl (L + 3) 0 6) (.sl (L + 4) 0 6) (.sl (L + 5) 0 12) 0 0,
  ⟨true, .flts z6F⟩, ⟨true, .ints .i64 (List.replicate 6 ar1)⟩, ⟨true, .ints .i64 z6I⟩, ⟨true, .flts (z12.set 0 one1)⟩, sBx (.sl (L + 2) 0 6) (.sl (L + 3) 0 6) (.sl (L + 4) 0 6) (.sl (L + 5) 0 12) 0 0]
set_option maxHeartbeats 0 in
theorem awake20_ok {M : List Blk} (hm : Top M) (hsc : scM M.length M = true) : COk Tryz.prog 3 22 [] M (Bo true) M := by
  have hng := hm.ng
  have h0 := nothing_ok hsc
  have u1 : Up M (M ++ ([sBx (.sl (M.length + 1) 0 6) (.sl (M.length + 2) 0 6) (.sl (M.length + 3) 0 6) (.sl (M.length + 4) 0 12) 0 0, ⟨true, .flts (z6F.set 4 bad4)⟩, ⟨true, .ints .i64 z6I⟩, ⟨true, .ints .i64 z6I⟩, ⟨true, .flts z12⟩, sBx (.sl (M.length + 1) 0 6) (.sl (M.length + 2) 0 6) (.sl (M.length + 3) 0 6) (.sl (M.length + 4) 0 12) 0 0] : List Blk)) :=
    Up.of hsc (by simp [scM, B.sc, scL, V.sc])
  have S1 : SeaR (M ++ ([sBx (.sl (M.length + 1) 0 6) (.sl (M.length + 2) 0 6) (.sl (M.length + 3) 0 6) (.sl (M.length + 4) 0 12) 0 0, ⟨true, .flts (z6F.set 4 bad4)⟩, ⟨true, .ints .i64 z6I⟩, ⟨true, .ints .i64 z6I⟩, ⟨true, .flts z12⟩, sBx (.sl (M.length + 1) 0 6) (.sl (M.length + 2) 0 6) (.sl (M.length + 3) 0 6) (.sl (M.length + 4) 0 12) 0 0] : List Blk)) (M.length + 1) (M.length + 2) (M.length + 3) (M.length + 4) (z6F.set 4 bad4) z6I z6I z12 :=
    ⟨SlF.whole (getB_app 1) (by decide) (by decide), SlI.whole (getB_app 2) (by decide) (by decide), SlI.whole (getB_app 3) (by decide) (by decide), SlF.whole (getB_app 4) (by decide) (by decide)⟩
  have hck := Check_ok u1.sc (by simp) S1 1 0 0
  rw [chk_bad] at hck
  have u2 : Up M (M ++ ([sBx (.sl (M.length + 1) 0 6) (.sl (M.length + 2) 0 6) (.sl (M.length + 3) 0 6) (.sl (M.length + 4) 0 12) 0 0, ⟨true, .flts (z6F.set 4 bad4)⟩, ⟨true, .ints .i64 z6I⟩, ⟨true, .ints .i64 z6I⟩, ⟨true, .flts z12⟩, sBx (.sl (M.length + 1) 0 6) (.sl (M.length + 2) 0 6) (.sl (M.length + 3) 0 6) (.sl (M.length + 4) 0 12) 0 0, ⟨true, .flts z6F⟩] : List Blk)) :=
    Up.of hsc (by simp [scM, B.sc, scL, V.sc])
  obtain ⟨M2, k0, k1, k2, k3, hlk, u3, S2⟩ := Lake_up (hm.up u2) u2.sc (j := M.length + 6) (w := true) (Be := z6F) (getB_app 6) (by decide) (by decide) (n := 1) (by decide) (by decide) (by decide) lak_b lak_h lak_q
  rw [lak_tab, edges12] at S2
  rw [edges12] at hlk
  have hm2 := (hm.up u2).up u3
  refine COk_quiet Tryz.f22 Tryz.func22 (by kernel_rfl) rfl ?_
  have hpl := fun m => plan_dt (x := 1) (by decide) 0 0 0 0 (by decide +kernel) false nilS' rfl m
  have u4 : Up M2 (M2 ++ ([sBx (.sl k0 0 6) (.sl k1 0 6) (.sl k2 0 6) (.sl k3 0 12) 0 0] : List Blk)) := Up.of u3.sc (by
    have a0 := S2.read.s0.lt
    have a1 := S2.read.s1.lt
    have a2 := S2.read.s2.lt
    have a3 := S2.read.s3.lt
    simp [scM, B.sc, scL, V.sc]; omega)
  have hcp := Copy_pl u4.sc (S2.up u4) (by decide) (by decide) (by decide) (by decide) 0 0
  have hw5 : (List.replicate 6 ar1).getD 5 0 = ar1 := rfl
  unfold copL at hcp
  have u5 : Up (M2 ++ ([sBx (.sl k0 0 6) (.sl k1 0 6) (.sl k2 0 6) (.sl k3 0 12) 0 0] : List Blk)) (M2 ++ ([sBx (.sl k0 0 6) (.sl k1 0 6) (.sl k2 0 6) (.sl k3 0 12) 0 0] : List Blk) ++ tailT (M2 ++ ([sBx (.sl k0 0 6) (.sl k1 0 6) (.sl k2 0 6) (.sl k3 0 12) 0 0] : List Blk)).length) :=
    Up.of u4.sc (by simp [scM, B.sc, scL, V.sc])
  have S5 : SeaB (M2 ++ ([sBx (.sl k0 0 6) (.sl k1 0 6) (.sl k2 0 6) (.sl k3 0 12) 0 0] : List Blk) ++ tailT (M2 ++ ([sBx (.sl k0 0 6) (.sl k1 0 6) (.sl k2 0 6) (.sl k3 0 12) 0 0] : List Blk)).length) true ((M2 ++ ([sBx (.sl k0 0 6) (.sl k1 0 6) (.sl k2 0 6) (.sl k3 0 12) 0 0] : List Blk)).length + 2) ((M2 ++ ([sBx (.sl k0 0 6) (.sl k1 0 6) (.sl k2 0 6) (.sl k3 0 12) 0 0] : List Blk)).length + 3) ((M2 ++ ([sBx (.sl k0 0 6) (.sl k1 0 6) (.sl k2 0 6) (.sl k3 0 12) 0 0] : List Blk)).length + 4) ((M2 ++ ([sBx (.sl k0 0 6) (.sl k1 0 6) (.sl k2 0 6) (.sl k3 0 12) 0 0] : List Blk)).length + 5)
      z6F (List.replicate 6 ar1) z6I (z12.set 0 one1) :=
    ⟨getB_app 2, getB_app 3, getB_app 4, getB_app 5, by decide, by decide, by decide, by decide, by decide, by decide, by decide, by decide⟩
  obtain ⟨M5, q0, q1, q2, q3, htu, u6, S6⟩ := Turned_up ((hm2.up u4).up u5) u5.sc S5 lak_ok (t := 4) (by decide)
  rw [trB_len, trB_len, trB_len, trP_len, edges12] at htu
  have b0 := S6.read.s0.lt
  have b1 := S6.read.s1.lt
  have b2 := S6.read.s2.lt
  have b3 := S6.read.s3.lt
  have u7 : Up M5 (M5 ++ ([sBx (.sl q0 0 6) (.sl q1 0 6) (.sl q2 0 6) (.sl q3 0 12) 0 0] : List Blk)) := Up.of u6.sc (by simp [scM, B.sc, scL, V.sc]; omega)
  have hm7 := (((hm2.up u4).up u5).up u6).up u7
  have hl := Same_ok u7.sc hm7.ng (S2.read.up (((u4.trans u5).trans u6).trans u7)) (S2.read.up (((u4.trans u5).trans u6).trans u7)) 0 0 0 0
  rw [sameB_self] at hl
  have hd := Same_ok u7.sc hm7.ng (S2.read.up (((u4.trans u5).trans u6).trans u7)) (S5.read.up (u6.trans u7)) 0 0 0 0
  rw [show sameB (z6F, List.replicate 6 ar1, List.replicate z6F.length 0, List.replicate 12 0, 0, 0) (z6F, List.replicate 6 ar1, z6I, z12.set 0 one1, 0, 0) = false from lak_diff] at hd
  have g4 : ∀ l : List Blk, ∃ y, M5 ++ l = M2 ++ ([sBx (.sl k0 0 6) (.sl k1 0 6) (.sl k2 0 6) (.sl k3 0 12) 0 0] ++ y) := fun l => by
    obtain ⟨y, hy⟩ := (u5.trans u6).ex
    exact ⟨y ++ l, by rw [hy]; simp⟩
  have gl : ∀ l : List Blk, getB (M5 ++ l) M2.length = sBx (.sl k0 0 6) (.sl k1 0 6) (.sl k2 0 6) (.sl k3 0 12) 0 0 := fun l => by
    obtain ⟨y, hy⟩ := g4 l
    rw [hy]; exact getB_app0
  have gt : ∀ l : List Blk, getB (M5 ++ l) ((M2 ++ ([sBx (.sl k0 0 6) (.sl k1 0 6) (.sl k2 0 6) (.sl k3 0 12) 0 0] : List Blk)).length + 6) = sBx (.sl ((M2 ++ ([sBx (.sl k0 0 6) (.sl k1 0 6) (.sl k2 0 6) (.sl k3 0 12) 0 0] : List Blk)).length + 2) 0 6) (.sl ((M2 ++ ([sBx (.sl k0 0 6) (.sl k1 0 6) (.sl k2 0 6) (.sl k3 0 12) 0 0] : List Blk)).length + 3) 0 6) (.sl ((M2 ++ ([sBx (.sl k0 0 6) (.sl k1 0 6) (.sl k2 0 6) (.sl k3 0 12) 0 0] : List Blk)).length + 4) 0 6) (.sl ((M2 ++ ([sBx (.sl k0 0 6) (.sl k1 0 6) (.sl k2 0 6) (.sl k3 0 12) 0 0] : List Blk)).length + 5) 0 12) 0 0 := fun l => by
    obtain ⟨y, hy⟩ := u6.ex
    rw [hy, List.append_assoc]
    exact getB_in (getB_app 6) rfl
  (conv => whnf); repeat ((first | refine ⟨_, _, h0, ?_⟩ | refine ⟨_, _, hck, ?_⟩ | refine ⟨_, _, hlk, ?_⟩ | refine ⟨_, _, hpl _, ?_⟩ | refine ⟨_, _, hcp, ?_⟩ | refine ⟨_, _, htu, ?_⟩ | refine ⟨_, _, hl, ?_⟩ | refine ⟨_, _, hd, ?_⟩ | refine SlI.at (S2.read.s1.app _) (i := 5) (by decide) rfl ?_ | rw [hw5] | rw [gl] | rw [gt] | refine Or.inl ?_ | refine setB_app ?_ | refine setB_app0 ?_ | rw [getB_app] | rw [getB_app0] | refine addB_f6 ?_ | refine addB_f5 ?_ | refine addB_f0 ?_); conv => whnf)
  exact ⟨rfl, (((((u2.trans u3).trans u4).trans u5).trans u6)).app _⟩
/-- More numbers than are looked at? -/
def wideB (a b c d : Nat) : Bool := decide ((a + b + c + d : Nat) > 131072)
theorem wide_ok {M : List Blk} (j0 j1 j2 j3 : Nat) {a b c d : Nat} (ha : a ≤ 17592186044416) (hb : b ≤ 17592186044416) (hc : c ≤ 17592186044416) (hd : d ≤ 17592186044416) (sky step : Int) : COk Tryz.prog 3 25 [seaV j0 j1 j2 j3 a b c d sky step] M (Bo (wideB a b c d)) M := by
  have e : IntKind.i64.wrap (IntKind.i64.wrap (IntKind.i64.wrap ((a : Int) + b) + c) + d) = ((a + b + c + d : Nat) : Int) := by
    simp (disch := omega) only [wrap_id]
    push_cast; rfl
  unfold wideB
  refine COk_quiet Tryz.f25 Tryz.func25 (by kernel_rfl) rfl ?_
  (conv => whnf); repeat ((first | rw [getB_app0] | refine addB_f0 ?_); conv => whnf)
  refine ⟨?_, _, rfl⟩
  rw [e]
  exact congrArg V.bool (decide_eq_decide.2 ⟨fun h => by omega, fun h => by omega⟩)
set_option maxHeartbeats 0 in
theorem checks20_ok {M : List Blk} (hm : Top M) (hsc : scM M.length M = true) (x : Int) {w : Bool} {j0 j1 j2 j3 : Nat} {Be : List Nat} {Wt Tr : List Int} {Sp : List Nat} (S : SeaB M w j0 j1 j2 j3 Be Wt Tr Sp) (sky step : Int) :
    COk Tryz.prog 3 6 [I x, seaV j0 j1 j2 j3 Be.length Wt.length Tr.length Sp.length sky step] M (Bo true) M := by
  have l0 := S.read.s0.lt
  have l1 := S.read.s1.lt
  have l2 := S.read.s2.lt
  have l3 := S.read.s3.lt
  have u0 : Up M (M ++ ([sBx (.sl j0 0 Be.length) (.sl j1 0 Wt.length) (.sl j2 0 Tr.length) (.sl j3 0 Sp.length) sky step] : List Blk)) := Up.of hsc (by simp [scM, B.sc, scL, V.sc]; omega)
  have haw := awake20_ok (hm.up u0) u0.sc
  have hwd := wide_ok (M := M ++ ([sBx (.sl j0 0 Be.length) (.sl j1 0 Wt.length) (.sl j2 0 Tr.length) (.sl j3 0 Sp.length) sky step] : List Blk)) j0 j1 j2 j3 S.l0 S.l1 S.l2 S.l3 sky step
  have hA := Check_ok u0.sc (hm.up u0).ng (S.read.up u0) x sky step
  have hB := rCheck_ok u0.sc (hm.up u0).ng (S.read.up u0) x sky step
  refine COk_quiet Tryz.f6 Tryz.func6 (by kernel_rfl) rfl ?_
  cases hq : wideB Be.length Wt.length Tr.length Sp.length with
  | true =>
    rw [hq] at hwd
    (conv => whnf); repeat ((first | refine ⟨_, _, haw, ?_⟩ | refine ⟨_, _, hwd, ?_⟩ | rw [getB_app0] | refine addB_f0 ?_); conv => whnf)
    exact ⟨rfl, _, rfl⟩
  | false =>
    rw [hq] at hwd
    (conv => whnf); repeat ((first | refine ⟨_, _, haw, ?_⟩ | refine ⟨_, _, hwd, ?_⟩ | refine ⟨_, _, hA, ?_⟩ | refine ⟨_, _, hB, ?_⟩ | refine br_yes (by simp) ?_ | rw [getB_app0] | refine addB_f0 ?_); conv => whnf)
    exact ⟨congrArg V.bool (by simp), _, rfl⟩
end Go.Proofs.YtgoljofmbidkfaaGreatDoor
