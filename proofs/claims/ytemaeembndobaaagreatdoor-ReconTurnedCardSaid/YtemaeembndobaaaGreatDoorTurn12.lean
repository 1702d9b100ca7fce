/- The statement ReconTurned: its contract. No condition. -/
import Derived.Test.YtemaeembndobaaaGreatDoorTd
namespace Go.Proofs.YtemaeembndobaaaGreatDoor
open Go Go.Eng
set_option maxRecDepth 100000
set_option linter.unusedSimpArgs false
set_option linter.unusedVariables false

theorem askT {P : Program} {ng : Nat} {f : FuncId} {args : List V} {m : List Blk} {r : V} {K : V → Prop} {B : Prop} (h : COk P ng f args m r m) (hr : fV r K) (hB : B) : callQ P ng f args m K ∧ B := ⟨⟨r, h, hr⟩, hB⟩
theorem sameT {a : Nat} (m : List Blk) : COk Tryz.prog 3 44 [F a, F a] m (Bo true) m := by
  have := same_ok a a m
  rwa [decide_eq_true rfl] at this
theorem side_sumT {k q : Nat} (hk : k < 4) (hq : q < 4) : (IntKind.i64.wrap ((k : Int) + q)).tmod 4 = (((k + q) % 4 : Nat) : Int) := by
  rw [wrap_id (by omega) (by omega), Int.tmod_eq_emod_of_nonneg (by omega)]
  rfl
theorem blkFT {L L' : List Nat} (h : L = L') : (⟨true, .flts L⟩ : Blk) = ⟨true, .flts L'⟩ := by rw [h]
set_option maxHeartbeats 0 in
theorem turned12_ok {M : List Blk} (hm : Top M) (hsc : scM M.length M = true) (x lim : Int) {w : Bool} {j0 j1 j2 j3 : Nat} {Be : List Nat} {Wt Tr : List Int} {Sp : List Nat} (S : SeaB M w j0 j1 j2 j3 Be Wt Tr Sp) (sky step : Int) (turn k : Int) :
    COk Tryz.prog 3 11 [askV x lim j0 j1 j2 j3 Be.length Wt.length Tr.length Sp.length sky step, I turn, I k] M (Bo true) M := by
  have l0 := S.read.s0.lt
  have l1 := S.read.s1.lt
  have l2 := S.read.s2.lt
  have l3 := S.read.s3.lt
  have u0 : Up M (M ++ ([⟨true, .cells (askL x lim j0 j1 j2 j3 Be.length Wt.length Tr.length Sp.length sky step)⟩] : List Blk)) := Up.of hsc (by simp [scM, B.sc, scL, V.sc]; omega)
  have haw := awake12_ok (hm.up u0) u0.sc
  have hlen0 := u0.len
  have hl2 : (M ++ ([⟨true, .cells (askL x lim j0 j1 j2 j3 Be.length Wt.length Tr.length Sp.length sky step)⟩] : List Blk)).length = M.length + 1 := by simp
  rcases net12_ok (hm.up u0) u0.sc x lim (n0 := Be.length) (n1 := Wt.length) (n2 := Tr.length) (n3 := Sp.length) (show j0 < _ by omega) (show j1 < _ by omega) (show j2 < _ by omega) (show j3 < _ by omega) sky step with ⟨r, M1, hnet, u1, rfl | ⟨b', rfl⟩⟩ | ⟨n, b, M1, rfl, hn, hn', e0, e1, hnet, hN, u1⟩
  iterate 2
    · refine COk_quiet Tryz.f11 Tryz.func11 (by kernel_rfl) rfl ?_
      (conv => whnf); repeat (first | (refine ⟨_, _, haw, ?_⟩; conv => whnf) | (refine ⟨_, haw, ?_⟩; conv => whnf) | (refine ⟨_, _, hnet, ?_⟩; conv => whnf) | (refine ⟨_, hnet, ?_⟩; conv => whnf) | (refine br_d (by omega) ?_; conv => whnf) | (refine br_nd (by omega) ?_; conv => whnf) | (refine br_eq (by omega) ?_; conv => whnf) | (refine br_neq (by omega) ?_; conv => whnf) | (refine br_ne (by omega) ?_; conv => whnf) | (refine br_no (bo_eqn (by omega)) ?_; conv => whnf) | (refine Or.inl ?_; conv => whnf) | (refine okS_no (by kernel_rfl) ?_; conv => whnf) | (refine okS_yes (by kernel_rfl) ?_; conv => whnf) | (refine And_of (by (conv => whnf); (rw [getB_app0]); (conv => whnf)) ?_; conv => whnf) | (refine setB_app ?_; conv => whnf) | (refine setB_app0 ?_; conv => whnf) | (rw [getB_app]; conv => whnf) | (rw [getB_app0]; conv => whnf) | (refine addB_f13 ?_; conv => whnf) | (refine addB_f12 ?_; conv => whnf) | (refine addB_f11 ?_; conv => whnf) | (refine addB_f10 ?_; conv => whnf) | (refine addB_f9 ?_; conv => whnf) | (refine addB_f8 ?_; conv => whnf) | (refine addB_f7 ?_; conv => whnf) | (refine addB_f6 ?_; conv => whnf) | (refine addB_f5 ?_; conv => whnf) | (refine addB_f4 ?_; conv => whnf) | (refine addB_f3 ?_; conv => whnf) | (refine addB_f2 ?_; conv => whnf) | (refine addB_f1 ?_; conv => whnf) | (refine addB_f0 ?_; conv => whnf))
      exact ⟨rfl, (u0.trans u1).ex⟩
  have hsd0 := side_ok hN
  have hsd := fun z => side_ok (hN.more z)
  by_cases h8 : n > 8
  · refine COk_quiet Tryz.f11 Tryz.func11 (by kernel_rfl) rfl ?_
    (conv => whnf); repeat (first | (refine ⟨_, _, haw, ?_⟩; conv => whnf) | (refine ⟨_, haw, ?_⟩; conv => whnf) | (refine ⟨_, _, hnet, ?_⟩; conv => whnf) | (refine ⟨_, hnet, ?_⟩; conv => whnf) | (refine ⟨_, _, hsd0, ?_⟩; conv => whnf) | (refine ⟨_, hsd0, ?_⟩; conv => whnf) | (refine br_d (by omega) ?_; conv => whnf) | (refine br_nd (by omega) ?_; conv => whnf) | (refine br_eq (by omega) ?_; conv => whnf) | (refine br_neq (by omega) ?_; conv => whnf) | (refine br_ne (by omega) ?_; conv => whnf) | (refine br_no (bo_eqn (by omega)) ?_; conv => whnf) | (refine Or.inl ?_; conv => whnf) | (refine okS_no (by kernel_rfl) ?_; conv => whnf) | (refine okS_yes (by kernel_rfl) ?_; conv => whnf) | (refine And_of (by (conv => whnf); (rw [getB_app0]); (conv => whnf)) ?_; conv => whnf) | (refine setB_app ?_; conv => whnf) | (refine setB_app0 ?_; conv => whnf) | (rw [getB_app]; conv => whnf) | (rw [getB_app0]; conv => whnf) | (refine addB_f13 ?_; conv => whnf) | (refine addB_f12 ?_; conv => whnf) | (refine addB_f11 ?_; conv => whnf) | (refine addB_f10 ?_; conv => whnf) | (refine addB_f9 ?_; conv => whnf) | (refine addB_f8 ?_; conv => whnf) | (refine addB_f7 ?_; conv => whnf) | (refine addB_f6 ?_; conv => whnf) | (refine addB_f5 ?_; conv => whnf) | (refine addB_f4 ?_; conv => whnf) | (refine addB_f3 ?_; conv => whnf) | (refine addB_f2 ?_; conv => whnf) | (refine addB_f1 ?_; conv => whnf) | (refine addB_f0 ?_; conv => whnf))
    exact ⟨rfl, (u0.trans u1).ex⟩
  have hP : ∀ y, getB (M1 ++ y) M.length = ⟨true, .cells (askL n lim j0 j1 j2 j3 Be.length Wt.length Tr.length Sp.length sky step)⟩ := fun y => by
    obtain ⟨z, rfl⟩ := u1.ex
    exact getB_in (getB_in getB_app0 rfl) rfl
  have hP0 := hP []
  rw [List.append_nil] at hP0
  have S1 := (S.up (u0.trans u1)).read
  have hlen := u1.len
  have hb := hN.lt
  have hel := edges_len hn
  have hsq : n * n ≤ 1024 := Nat.mul_le_mul hn' hn'
  have hsq1 : 1 ≤ n * n := Nat.mul_le_mul hn hn
  obtain ⟨t, ht, hwt⟩ := within12_ok turn 24 (by omega) (by omega)
  obtain ⟨q, hq, hwi⟩ := within12_ok k (edges n).length (by omega) (by omega)
  have hgd := gedges_ok hN
  have hx := List.getElem?_eq_getElem (l := edges n) hq
  generalize (edges n)[q] = y at hx
  obtain ⟨c1, s1, c12, c2, s2, _⟩ := edge_of hn hx
  have hge : ∀ z, COk Tryz.prog 3 41 [.ptr (b + 1) 0] (M1 ++ z) (I Be.length) (M1 ++ z) := fun z => by rw [e0]; exact gcells_ok (hN.more z)
  have hge0 := hge []
  rw [List.append_nil] at hge0
  have hT : ∀ z c, c < 6 * (n * n) → COk Tryz.prog 3 46 [I n, I t, I (c : Nat)] (M1 ++ z) (.tup [I (tC n t c : Nat), I (tQ n t c : Nat)]) (M1 ++ z) := fun z c hc => by
    obtain ⟨g, hg⟩ := (hm.up u0).up u1
    obtain ⟨e, a2, a3, a4⟩ := cell_parts hn hc
    have := turn_walk n _ _ _ t hn hn' a2 a3 a4 ht (g ++ z)
    rw [← e] at this
    rw [hg]
    exact this
  have hscm : ∀ (B' : List Nat) (W' : List Int), scM (M1 ++ ([⟨true, .flts B'⟩, ⟨true, .ints .i64 W'⟩, ⟨true, .cells [.sl M1.length 0 Be.length, .sl (M1.length + 1) 0 Be.length, .raw (.slice none 0 0), .raw (.slice none 0 0), .int .i64 0, I 0]⟩] : List Blk)).length (M1 ++ ([⟨true, .flts B'⟩, ⟨true, .ints .i64 W'⟩, ⟨true, .cells [.sl M1.length 0 Be.length, .sl (M1.length + 1) 0 Be.length, .raw (.slice none 0 0), .raw (.slice none 0 0), .int .i64 0, I 0]⟩] : List Blk)) = true := fun B' W' => scM_app (scM_mono (by simp) _ u1.sc) (by simp [scM, B.sc, scL, V.sc])
  have eq0 : M1 ++ ([⟨true, .flts (List.replicate (Be.length * 1) 0)⟩, ⟨true, .ints .i64 (List.replicate (Be.length * 1) 0)⟩, ⟨true, .cells [.sl M1.length 0 Be.length, .sl (M1.length + 1) 0 Be.length, .raw (.slice none 0 0), .raw (.slice none 0 0), .int .i64 0, I 0]⟩] : List Blk) = M1 ++ ([⟨true, .flts (tl 0 n t (fun i => Be.getD i 0) 0)⟩, ⟨true, .ints .i64 (tl (0 : Int) n t (fun i => Wt.getD i 0) 0)⟩, ⟨true, .cells [.sl M1.length 0 Be.length, .sl (M1.length + 1) 0 Be.length, .raw (.slice none 0 0), .raw (.slice none 0 0), .int .i64 0, I 0]⟩] : List Blk) := by
    simp only [tl, Nat.mul_one, e0]
  refine COk_quiet Tryz.f11 Tryz.func11 (by kernel_rfl) rfl ?_
  (conv => whnf); repeat (first | (refine ⟨_, _, haw, ?_⟩; conv => whnf) | (refine ⟨_, haw, ?_⟩; conv => whnf) | (refine ⟨_, _, hnet, ?_⟩; conv => whnf) | (refine ⟨_, hnet, ?_⟩; conv => whnf) | (refine ⟨_, _, hsd0, ?_⟩; conv => whnf) | (refine ⟨_, hsd0, ?_⟩; conv => whnf) | (refine ⟨_, _, hwt _, ?_⟩; conv => whnf) | (refine ⟨_, hwt _, ?_⟩; conv => whnf) | (refine ⟨_, _, hgd, ?_⟩; conv => whnf) | (refine ⟨_, hgd, ?_⟩; conv => whnf) | (refine ⟨_, _, hwi _, ?_⟩; conv => whnf) | (refine ⟨_, hwi _, ?_⟩; conv => whnf) | (refine ⟨_, _, hge0, ?_⟩; conv => whnf) | (refine ⟨_, hge0, ?_⟩; conv => whnf) | (refine ⟨_, _, hge _, ?_⟩; conv => whnf) | (refine ⟨_, hge _, ?_⟩; conv => whnf) | (refine askT hge0 rfl ?_; conv => whnf) | (refine askT (hge _) rfl ?_; conv => whnf) | (refine br_d ⟨by omega, by omega, by omega, (by show (8 : Int) * _ ≤ 2 ^ 48; omega)⟩ ?_; conv => whnf) | (refine br_d (by omega) ?_; conv => whnf) | (refine br_nd (by omega) ?_; conv => whnf) | (refine br_eq (by omega) ?_; conv => whnf) | (refine br_neq (by omega) ?_; conv => whnf) | (refine br_ne (by omega) ?_; conv => whnf) | (refine br_no (bo_eqn (by omega)) ?_; conv => whnf) | (refine Or.inl ?_; conv => whnf) | (refine okS_no (by kernel_rfl) ?_; conv => whnf) | (refine okS_yes (by kernel_rfl) ?_; conv => whnf) | (refine And_of (by (conv => whnf); (rw [getB_app0]); (conv => whnf)) ?_; conv => whnf) | (refine setB_app ?_; conv => whnf) | (refine setB_app0 ?_; conv => whnf) | (rw [getB_app]; conv => whnf) | (rw [getB_app0]; conv => whnf) | (refine addB_f13 ?_; conv => whnf) | (refine addB_f12 ?_; conv => whnf) | (refine addB_f11 ?_; conv => whnf) | (refine addB_f10 ?_; conv => whnf) | (refine addB_f9 ?_; conv => whnf) | (refine addB_f8 ?_; conv => whnf) | (refine addB_f7 ?_; conv => whnf) | (refine addB_f6 ?_; conv => whnf) | (refine addB_f5 ?_; conv => whnf) | (refine addB_f4 ?_; conv => whnf) | (refine addB_f3 ?_; conv => whnf) | (refine addB_f2 ?_; conv => whnf) | (refine addB_f1 ?_; conv => whnf) | (refine addB_f0 ?_; conv => whnf))
  refine loop_to (fun c => [.any, .any, .any, .ptr M.length 0, .any, .any, .any, .ptr (b + 1) 0, .any, I t, I q, .ptr (M1.length + 2) 0, I c, .any, .any, .any, .any, .any, .any, .any, .any, .any, .any, .any, .any, .any, .any, .any, .any, .any, .any, .any, .any, .any, .any, .any, .any, .any, .any, .any, .any, .any, .any, .any, .any, .any, .any, .any, .any, .any, .any, .any, .any, .any, .any, .any, .any, .any, .any, .any, .any, .any, .any, .any, .any, .any, .any, .any, .any, .any, .any, .any, .any, .any, .any, .any, .any, .any, .any, .any, .any, .any, .any, .any, .any, .any, .any, .any, .any, .any, .any, .any, .any, .any, .any, .any, .any, .any, .any, .any, .any, .any, .any, .any, .any, .any, .any, .any, .any, .any, .any, .any, .any, .any, .any, .any, .any, .any, .any, .any, .any, .any, .any, .any, .any, .any, .any, .any, .any, .any, .any, .any, .any, .any, .any, .any, .any, .any, .any, .any, .any, .any, .any, .any]) (fun c => M1 ++ ([⟨true, .flts (tl 0 n t (fun i => Be.getD i 0) c)⟩, ⟨true, .ints .i64 (tl 0 n t (fun i => Wt.getD i 0) c)⟩, ⟨true, .cells [.sl M1.length 0 Be.length, .sl (M1.length + 1) 0 Be.length, .raw (.slice none 0 0), .raw (.slice none 0 0), .int .i64 0, I 0]⟩] : List Blk)) 0 Be.length (Nat.zero_le _) ?_ ?_ ?_
  · refine Fg.of [] ?_ (by rw [List.append_nil]; exact eq0) (by simp) (by (simp [scL, V.sc]) <;> omega) (hscm _ _)
    conv => whnf
    exact ⟨rfl, rfl, rfl, rfl, rfl, rfl, rfl⟩
  · intro c _ hc
    obtain ⟨d1, d2⟩ := tC_lt hn ht (show c < 6 * (n * n) by omega)
    have hTc := fun z => hT z c (by omega)
    have eB : (tl 0 n t (fun i => Be.getD i 0) c).set (0 + tC n t c * 1) (Be.getD c 0) = tl 0 n t (fun i => Be.getD i 0) (c + 1) := by rw [show 0 + tC n t c * 1 = tC n t c by omega]; rfl
    have eW : (tl (0 : Int) n t (fun i => Wt.getD i 0) c).set (0 + tC n t c * 1) (Wt.getD c 0) = tl 0 n t (fun i => Wt.getD i 0) (c + 1) := by rw [show 0 + tC n t c * 1 = tC n t c by omega]; rfl
    have bB : Nat.blt (0 + tC n t c * 1) (tl 0 n t (fun i => Be.getD i 0) c).length = true := by rw [tl_len]; simp; omega
    have bW : Nat.blt (0 + tC n t c * 1) (tl (0 : Int) n t (fun i => Wt.getD i 0) c).length = true := by rw [tl_len]; simp; omega
    generalize tC n t c = d at *
    (conv => whnf); repeat (first | (refine ⟨_, _, hge _, ?_⟩; conv => whnf) | (refine ⟨_, hge _, ?_⟩; conv => whnf) | (refine ⟨_, _, hsd _, ?_⟩; conv => whnf) | (refine ⟨_, hsd _, ?_⟩; conv => whnf) | (refine ⟨_, _, hTc _, ?_⟩; conv => whnf) | (refine ⟨_, hTc _, ?_⟩; conv => whnf) | (rw [hP]; conv => whnf) | (refine SlF.at (S1.s0.app _) (i := c) hc rfl ?_; conv => whnf) | (refine SlI.at (S1.s1.app _) (i := c) (by omega) rfl ?_; conv => whnf) | (refine br_yes bB ?_; conv => whnf) | (refine br_yes bW ?_; conv => whnf) | (refine put_at0 (blkF eB) ?_; conv => whnf) | (refine put_at (blkI eW) ?_; conv => whnf) | (refine br_d (by omega) ?_; conv => whnf) | (refine br_nd (by omega) ?_; conv => whnf) | (refine br_eq (by omega) ?_; conv => whnf) | (refine br_neq (by omega) ?_; conv => whnf) | (refine br_ne (by omega) ?_; conv => whnf) | (refine br_no (bo_eqn (by omega)) ?_; conv => whnf) | (refine Or.inl ?_; conv => whnf) | (refine okS_no (by kernel_rfl) ?_; conv => whnf) | (refine okS_yes (by kernel_rfl) ?_; conv => whnf) | (refine And_of (by (conv => whnf); (rw [getB_app0]); (conv => whnf)) ?_; conv => whnf) | (refine setB_app ?_; conv => whnf) | (refine setB_app0 ?_; conv => whnf) | (rw [getB_app]; conv => whnf) | (rw [getB_app0]; conv => whnf) | (refine addB_f13 ?_; conv => whnf) | (refine addB_f12 ?_; conv => whnf) | (refine addB_f11 ?_; conv => whnf) | (refine addB_f10 ?_; conv => whnf) | (refine addB_f9 ?_; conv => whnf) | (refine addB_f8 ?_; conv => whnf) | (refine addB_f7 ?_; conv => whnf) | (refine addB_f6 ?_; conv => whnf) | (refine addB_f5 ?_; conv => whnf) | (refine addB_f4 ?_; conv => whnf) | (refine addB_f3 ?_; conv => whnf) | (refine addB_f2 ?_; conv => whnf) | (refine addB_f1 ?_; conv => whnf) | (refine addB_f0 ?_; conv => whnf))
    refine Fg.of [] ?_ (by rw [List.append_nil]; try rfl) (by simp) (by (simp [scL, V.sc]) <;> omega) (hscm _ _)
    conv => whnf
    exact ⟨rfl, rfl, rfl, rfl, rfl, wrapKL (by omega), rfl⟩
  · obtain ⟨Bl, hBl⟩ : ∃ Bl, Bl = tl 0 n t (fun i => Be.getD i 0) Be.length := ⟨_, rfl⟩
    obtain ⟨Wl, hWl⟩ : ∃ Wl, Wl = tl (0 : Int) n t (fun i => Wt.getD i 0) Be.length := ⟨_, rfl⟩
    rw [← hBl, ← hWl]
    have lB : Bl.length = Be.length := by rw [hBl, tl_len]; exact e0.symm
    have lW : Wl.length = Be.length := by rw [hWl, tl_len]; exact e0.symm
    have gB : ∀ c, c < 6 * (n * n) → Bl.getD (tC n t c) 0 = Be.getD c 0 := fun c hc => by rw [hBl]; exact tl_get hn ht _ (by omega) c (by omega)
    have gW : ∀ c, c < 6 * (n * n) → Wl.getD (tC n t c) 0 = Wt.getD c 0 := fun c hc => by rw [hWl]; exact tl_get hn ht _ (by omega) c (by omega)
    have wB : ∀ i, i < Bl.length → inF (Bl.getD i 0) := fun i hi => by
      rw [hBl]; exact tl_wf (p := inF) (by decide) (fun i hi => S1.s0.wf i (by omega)) _ (by omega) i (by omega)
    have wW : ∀ i, i < Wl.length → in64 (Wl.getD i 0) := fun i hi => by
      rw [hWl]; exact tl_wf (p := in64) (by decide) (fun i hi => S1.s1.wf i (by omega)) _ (by omega) i (by omega)
    obtain ⟨d1, d2⟩ := tC_lt hn ht c1
    obtain ⟨e', y', w', hy', hw', har⟩ := around_at hn d1 (Nat.mod_lt (y.2.1 + tQ n t y.1) (show 0 < 4 by decide))
    have hw'' : (w' = 1 ∧ y' = (tC n t y.1, (y.2.1 + tQ n t y.1) % 4, (nbC n (tC n t y.1) ((y.2.1 + tQ n t y.1) % 4)).1, (nbC n (tC n t y.1) ((y.2.1 + tQ n t y.1) % 4)).2)) ∨
        (w' = -1 ∧ y' = ((nbC n (tC n t y.1) ((y.2.1 + tQ n t y.1) % 4)).1, (nbC n (tC n t y.1) ((y.2.1 + tQ n t y.1) % 4)).2, tC n t y.1, (y.2.1 + tQ n t y.1) % 4)) := by
      rcases hw' with ⟨h1, h2, _⟩ | ⟨h1, h2, _⟩
      · exact .inl ⟨h1, h2⟩
      · exact .inr ⟨h1, h2⟩
    obtain ⟨pl1, pl2⟩ := turned_plain hn hn' ht gB gW lim hx hw''
    have hww : w' = 1 ∨ w' = -1 := by
      rcases hw'' with h | h
      · exact .inl h.1
      · exact .inr h.1
    have fm1 : fmul (some one1) (some (FloatKind.f64.nearest w')) = some (if w' = 1 then one1 else negT) := by rcases hww with rfl | rfl <;> decide +kernel
    have fm2 : fmul (some negT) (some (FloatKind.f64.nearest w')) = some (if w' = 1 then negT else one1) := by rcases hww with rfl | rfl <;> decide +kernel
    clear hw' hw'' hww
    obtain ⟨M4, hM4⟩ : ∃ M4, M4 = M1 ++ ([⟨true, .flts Bl⟩, ⟨true, .ints .i64 Wl⟩, ⟨true, .cells [.sl M1.length 0 Be.length, .sl (M1.length + 1) 0 Be.length, .raw (.slice none 0 0), .raw (.slice none 0 0), .int .i64 0, I 0]⟩, ⟨true, .cells [I y.1, I y.2.1, I y.2.2.1, I y.2.2.2]⟩] : List Blk) := ⟨_, rfl⟩
    have sc4 : scM M4.length M4 = true := by rw [hM4]; exact scM_app (scM_mono (by simp) _ u1.sc) (by simp [scM, B.sc, scL, V.sc])
    have u4 : Up M1 M4 := ⟨⟨_, hM4⟩, sc4⟩
    have l4 := u4.len
    have N4 := hN.up u4
    have S4 := S1.up u4
    have B4 : SlF M4 M1.length 0 Bl := by rw [hM4]; exact SlF.whole getB_app0 wB (by omega)
    have W4 : SlI M4 (M1.length + 1) 0 Wl := by rw [hM4]; exact SlI.whole (getB_app 1) wW (by omega)
    have hD := fun v => depth12_ok (vT := .sl j2 0 Tr.length) (vS := .sl j3 0 Sp.length) sc4 N4 S4.s0 S4.s1 (by simp [V.sc]; omega) (by simp [V.sc]; omega) rfl rfl sky step hn hx e0 e1 lim v
    have hE := fun v => depth12_ok (vT := .raw (.slice none 0 0)) (vS := .raw (.slice none 0 0)) sc4 N4 B4 W4 rfl rfl rfl rfl 0 0 hn hy' (by rw [lB]; exact e0) (by rw [lW]; exact e0) lim v
    have hD1 := hD one1
    have hD2 := hD negT
    have hE1 := hE (if w' = 1 then one1 else negT)
    have hE2 := hE (if w' = 1 then negT else one1)
    rw [pl1, lB, lW] at hE1
    rw [pl2, lB, lW] at hE2
    rw [hM4] at hD1 hD2 hE1 hE2
    have hss := side_sumT s1 d2
    have hTy := fun z => hT z y.1 c1
    generalize tC n t y.1 = dd at *
    generalize tQ n t y.1 = dq at *
    generalize (if w' = 1 then one1 else negT) = ua at *
    generalize (if w' = 1 then negT else one1) = ub at *
    generalize reconF n lim Be Wt y one1 = ra at *
    generalize reconF n lim Be Wt y negT = rb at *
    (conv => whnf); repeat (first | (refine ⟨_, _, hge _, ?_⟩; conv => whnf) | (refine ⟨_, hge _, ?_⟩; conv => whnf) | (refine ⟨_, _, edge_ok (hN.more _) q y hx, ?_⟩; conv => whnf) | (refine ⟨_, edge_ok (hN.more _) q y hx, ?_⟩; conv => whnf) | (refine ⟨_, _, hsd _, ?_⟩; conv => whnf) | (refine ⟨_, hsd _, ?_⟩; conv => whnf) | (refine ⟨_, _, hTy _, ?_⟩; conv => whnf) | (refine ⟨_, hTy _, ?_⟩; conv => whnf) | (rw [hss]; conv => whnf) | (refine ⟨_, _, har _ _ (hN.more _), ?_⟩; conv => whnf) | (refine ⟨_, har _ _ (hN.more _), ?_⟩; conv => whnf) | (refine br_d (by omega) ?_; conv => whnf) | (refine br_nd (by omega) ?_; conv => whnf) | (refine br_eq (by omega) ?_; conv => whnf) | (refine br_neq (by omega) ?_; conv => whnf) | (refine br_ne (by omega) ?_; conv => whnf) | (refine br_no (bo_eqn (by omega)) ?_; conv => whnf) | (refine Or.inl ?_; conv => whnf) | (refine okS_no (by kernel_rfl) ?_; conv => whnf) | (refine okS_yes (by kernel_rfl) ?_; conv => whnf) | (refine And_of (by (conv => whnf); (rw [getB_app0]); (conv => whnf)) ?_; conv => whnf) | (refine setB_app ?_; conv => whnf) | (refine setB_app0 ?_; conv => whnf) | (rw [getB_app]; conv => whnf) | (rw [getB_app0]; conv => whnf) | (refine addB_f13 ?_; conv => whnf) | (refine addB_f12 ?_; conv => whnf) | (refine addB_f11 ?_; conv => whnf) | (refine addB_f10 ?_; conv => whnf) | (refine addB_f9 ?_; conv => whnf) | (refine addB_f8 ?_; conv => whnf) | (refine addB_f7 ?_; conv => whnf) | (refine addB_f6 ?_; conv => whnf) | (refine addB_f5 ?_; conv => whnf) | (refine addB_f4 ?_; conv => whnf) | (refine addB_f3 ?_; conv => whnf) | (refine addB_f2 ?_; conv => whnf) | (refine addB_f1 ?_; conv => whnf) | (refine addB_f0 ?_; conv => whnf))
    refine lr ?_
    (conv => whnf); repeat (first | (rw [hP]; conv => whnf) | (rw [fm1]; conv => whnf) | (refine ⟨_, _, hD1, ?_⟩; conv => whnf) | (refine ⟨_, hD1, ?_⟩; conv => whnf) | (refine ⟨_, _, hE1, ?_⟩; conv => whnf) | (refine ⟨_, hE1, ?_⟩; conv => whnf) | (refine ⟨_, _, sameT _, ?_⟩; conv => whnf) | (refine ⟨_, sameT _, ?_⟩; conv => whnf) | (refine br_d (by omega) ?_; conv => whnf) | (refine br_nd (by omega) ?_; conv => whnf) | (refine br_eq (by omega) ?_; conv => whnf) | (refine br_neq (by omega) ?_; conv => whnf) | (refine br_ne (by omega) ?_; conv => whnf) | (refine br_no (bo_eqn (by omega)) ?_; conv => whnf) | (refine Or.inl ?_; conv => whnf) | (refine okS_no (by kernel_rfl) ?_; conv => whnf) | (refine okS_yes (by kernel_rfl) ?_; conv => whnf) | (refine And_of (by (conv => whnf); (rw [getB_app0]); (conv => whnf)) ?_; conv => whnf) | (refine setB_app ?_; conv => whnf) | (refine setB_app0 ?_; conv => whnf) | (rw [getB_app]; conv => whnf) | (rw [getB_app0]; conv => whnf) | (refine addB_f13 ?_; conv => whnf) | (refine addB_f12 ?_; conv => whnf) | (refine addB_f11 ?_; conv => whnf) | (refine addB_f10 ?_; conv => whnf) | (refine addB_f9 ?_; conv => whnf) | (refine addB_f8 ?_; conv => whnf) | (refine addB_f7 ?_; conv => whnf) | (refine addB_f6 ?_; conv => whnf) | (refine addB_f5 ?_; conv => whnf) | (refine addB_f4 ?_; conv => whnf) | (refine addB_f3 ?_; conv => whnf) | (refine addB_f2 ?_; conv => whnf) | (refine addB_f1 ?_; conv => whnf) | (refine addB_f0 ?_; conv => whnf))
    refine lr ?_
    (conv => whnf); repeat (first | (rw [hP]; conv => whnf) | (rw [fm2]; conv => whnf) | (refine ⟨_, _, hD2, ?_⟩; conv => whnf) | (refine ⟨_, hD2, ?_⟩; conv => whnf) | (refine ⟨_, _, hE2, ?_⟩; conv => whnf) | (refine ⟨_, hE2, ?_⟩; conv => whnf) | (refine ⟨_, _, sameT _, ?_⟩; conv => whnf) | (refine ⟨_, sameT _, ?_⟩; conv => whnf) | (refine br_d (by omega) ?_; conv => whnf) | (refine br_nd (by omega) ?_; conv => whnf) | (refine br_eq (by omega) ?_; conv => whnf) | (refine br_neq (by omega) ?_; conv => whnf) | (refine br_ne (by omega) ?_; conv => whnf) | (refine br_no (bo_eqn (by omega)) ?_; conv => whnf) | (refine Or.inl ?_; conv => whnf) | (refine okS_no (by kernel_rfl) ?_; conv => whnf) | (refine okS_yes (by kernel_rfl) ?_; conv => whnf) | (refine And_of (by (conv => whnf); (rw [getB_app0]); (conv => whnf)) ?_; conv => whnf) | (refine setB_app ?_; conv => whnf) | (refine setB_app0 ?_; conv => whnf) | (rw [getB_app]; conv => whnf) | (rw [getB_app0]; conv => whnf) | (refine addB_f13 ?_; conv => whnf) | (refine addB_f12 ?_; conv => whnf) | (refine addB_f11 ?_; conv => whnf) | (refine addB_f10 ?_; conv => whnf) | (refine addB_f9 ?_; conv => whnf) | (refine addB_f8 ?_; conv => whnf) | (refine addB_f7 ?_; conv => whnf) | (refine addB_f6 ?_; conv => whnf) | (refine addB_f5 ?_; conv => whnf) | (refine addB_f4 ?_; conv => whnf) | (refine addB_f3 ?_; conv => whnf) | (refine addB_f2 ?_; conv => whnf) | (refine addB_f1 ?_; conv => whnf) | (refine addB_f0 ?_; conv => whnf))
    refine lr ?_
    (conv => whnf); repeat (first | (refine br_d (by omega) ?_; conv => whnf) | (refine br_nd (by omega) ?_; conv => whnf) | (refine br_eq (by omega) ?_; conv => whnf) | (refine br_neq (by omega) ?_; conv => whnf) | (refine br_ne (by omega) ?_; conv => whnf) | (refine br_no (bo_eqn (by omega)) ?_; conv => whnf) | (refine Or.inl ?_; conv => whnf) | (refine okS_no (by kernel_rfl) ?_; conv => whnf) | (refine okS_yes (by kernel_rfl) ?_; conv => whnf) | (refine And_of (by (conv => whnf); (rw [getB_app0]); (conv => whnf)) ?_; conv => whnf) | (refine setB_app ?_; conv => whnf) | (refine setB_app0 ?_; conv => whnf) | (rw [getB_app]; conv => whnf) | (rw [getB_app0]; conv => whnf) | (refine addB_f13 ?_; conv => whnf) | (refine addB_f12 ?_; conv => whnf) | (refine addB_f11 ?_; conv => whnf) | (refine addB_f10 ?_; conv => whnf) | (refine addB_f9 ?_; conv => whnf) | (refine addB_f8 ?_; conv => whnf) | (refine addB_f7 ?_; conv => whnf) | (refine addB_f6 ?_; conv => whnf) | (refine addB_f5 ?_; conv => whnf) | (refine addB_f4 ?_; conv => whnf) | (refine addB_f3 ?_; conv => whnf) | (refine addB_f2 ?_; conv => whnf) | (refine addB_f1 ?_; conv => whnf) | (refine addB_f0 ?_; conv => whnf))
    exact ⟨rfl, (u0.trans u1).app _⟩
end Go.Proofs.YtemaeembndobaaaGreatDoor
