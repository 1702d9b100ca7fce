/- Package grid: what New leaves, and how a net is asked. No condition. -/
import Derived.Test.YtemaeembndobaaaGreatDoorX
namespace Go.Proofs.YtemaeembndobaaaGreatDoor
open Go Go.Eng
set_option maxRecDepth 100000
set_option linter.unusedSimpArgs false
set_option linter.unusedVariables false

/-- The edge over a side of a cell, by the pair of both. -/
def numF (n : Nat) : Int → Int → Option Int := (edq n (6 * (n * n))).f
abbrev Bdead : Blk := ⟨false, .dead⟩
/-- A net's blocks; the first of them has the number b. -/
def netAt (n b : Nat) : List Blk :=
  [⟨false, .mpI (numF n)⟩, ⟨false, .cells [I n, .sl (b + 4) 0 (edges n).length, .mp b, .sl (b + 9) 0 (edges n).length, .sl (b + 6) 0 (6 * (n * n)), .sl (b + 11) 0 (edges n).length, .sl (b + 13) 0 (edges n).length]⟩,
    Bdead, Bdead, ⟨false, .ints .i64 (flatE (edges n))⟩, Bdead, ⟨false, .ints .i64 (arL n (6 * (n * n)))⟩, Bdead, Bdead, ⟨false, .ints .i64 (bhL n (edges n))⟩, Bdead, ⟨false, .flts ((edges n).map (lnE n))⟩, Bdead, ⟨false, .flts ((edges n).map (gpE n))⟩]
def stlC (n : Nat) (i : Nat) : Option Nat :=
  match i with
  | 7 => some ((edges n).length - 1)
  | 9 => some (6 * (n * n) - 1)
  | 12 => some ((edges n).length - 1)
  | 14 => some ((edges n).length - 1)
  | 16 => some ((edges n).length - 1)
  | _ => none
theorem stlC_big (n i : Nat) (h : 17 ≤ i) : stlC n i = none := by
  unfold stlC
  split <;> first | omega | rfl
theorem edges_pos (n : Nat) (hn : 1 ≤ n) : 0 < (edges n).length := by
  have h1 := Nat.mul_pos hn hn
  have := edq_pos n (6 * (n * n)) (by omega)
  rw [(edq_es n _).2] at this
  exact this
theorem new_ok (n : Nat) (hn : 1 ≤ n) (hn' : n ≤ 32) : COk Tryz.prog 3 14 [I n] (GG []) (.tup [.ptr 4 0, I 0]) (GG (netAt n 3)) := by
  have hpos := edges_pos n hn
  have h := new_raw n hn hn' _ (List.getElem?_eq_getElem hpos)
  generalize (edges n)[0] = x0 at h
  have hq1 : (edq n (6 * (n * n))).l = flatE (edges n) := (edq_es n _).1
  have hq2 : (edq n (6 * (n * n))).k = (edges n).length := (edq_es n _).2
  have hq3 : (edq n (6 * (n * n))).f = numF n := rfl
  have h2 := COk.settle (m := GG []) (N := (mem3 n (edq n (6 * (n * n))) (g6C n 0) (g8C n 0) (g10C x0) (g11C n x0) (g13C n x0) (g15C n x0) (edges n).length (edges n)).drop 3) (N' := netAt n 3) (stlC n) h ?_ ?_ ?_ ?_
  · exact h2
  · intro i hi
    have hi : i < 3 := hi
    obtain rfl | rfl | rfl : i = 0 ∨ i = 1 ∨ i = 2 := by omega
    all_goals rfl
  · intro i hi
    exact stlC_big n i hi
  · exact ⟨trivial, trivial, trivial⟩
  · unfold mem3
    rw [hq3]
    have hk : (edq n (6 * (n * n))).k - 1 = (edges n).length - 1 := by rw [hq2]
    refine ⟨.same rfl (fun h => nomatch h) (fun j v hv => nomatch hv), ?_⟩
    refine ⟨.row rfl (fun h => nomatch h) ⟨trivial, ?_, trivial, ?_, ?_, ?_, ?_, trivial⟩ ?_, ?_⟩
    · intro u hu; rw [hk]; exact (Option.some.inj hu).symm
    · intro u hu; exact (Option.some.inj hu).symm
    · intro u hu; exact (Option.some.inj hu).symm
    · intro u hu; exact (Option.some.inj hu).symm
    · intro u hu; exact (Option.some.inj hu).symm
    · rw [hq2]; rfl
    refine ⟨.gone (.inl rfl) (.inl rfl), .gone (.inl rfl) (.inl rfl), ?_, .gone (.inl rfl) (.inl rfl), .ints rfl (fun h => nomatch h), .gone (.inl rfl) (.inl rfl), .gone (.inl rfl) (.inl rfl), .ints rfl (fun h => nomatch h), .gone (.inl rfl) (.inl rfl), .flts rfl (fun h => nomatch h), .gone (.inl rfl) (.inl rfl), .flts rfl (fun h => nomatch h), trivial⟩
    unfold edC
    rw [hq1, hk]
    exact .ints rfl (fun h => nomatch h)
theorem new_no (side : Int) (h : ¬ (1 ≤ side ∧ side ≤ 32)) (m : List Blk) : COk Tryz.prog 3 14 [I side] m (.tup [.raw (.pointer none), I 10]) m := by
  refine COk_quiet Tryz.f14 Tryz.func14 (by kernel_rfl) rfl ?_
  conv => whnf
  refine ⟨_, _, cells_ok _ _, ?_⟩
  rw [show cellsI side = 0 from if_neg h]
  conv => whnf
  exact ⟨rfl, [], by simp⟩

/-- A net lies in memory, its first block at b. -/
structure Net (m : List Blk) (b n : Nat) : Prop where
  mp : getB m b = ⟨false, .mpI (numF n)⟩
  gr : getB m (b + 1) = ⟨false, .cells [I n, .sl (b + 4) 0 (edges n).length, .mp b, .sl (b + 9) 0 (edges n).length, .sl (b + 6) 0 (6 * (n * n)), .sl (b + 11) 0 (edges n).length, .sl (b + 13) 0 (edges n).length]⟩
  ed : getB m (b + 4) = ⟨false, .ints .i64 (flatE (edges n))⟩
  ar : getB m (b + 6) = ⟨false, .ints .i64 (arL n (6 * (n * n)))⟩
  bh : getB m (b + 9) = ⟨false, .ints .i64 (bhL n (edges n))⟩
  ln : getB m (b + 11) = ⟨false, .flts ((edges n).map (lnE n))⟩
  gp : getB m (b + 13) = ⟨false, .flts ((edges n).map (gpE n))⟩
  lt : b + 14 ≤ m.length
theorem Net.more {m : List Blk} {b n : Nat} (h : Net m b n) (x : List Blk) : Net (m ++ x) b n := by
  have hlt := h.lt
  have e : ∀ i, i < m.length → getB (m ++ x) i = getB m i := fun i hi => by
    rw [getB_eq, getB_eq, List.getD_eq_getElem?_getD, List.getD_eq_getElem?_getD, List.getElem?_append_left hi]
  exact ⟨by rw [e _ (by omega)]; exact h.mp, by rw [e _ (by omega)]; exact h.gr, by rw [e _ (by omega)]; exact h.ed, by rw [e _ (by omega)]; exact h.ar, by rw [e _ (by omega)]; exact h.bh, by rw [e _ (by omega)]; exact h.ln, by rw [e _ (by omega)]; exact h.gp, by simp; omega⟩
theorem addB_of {m : List Blk} {b : Blk} {K : Nat → List Blk → Prop} (h : K m.length (m ++ [b])) : addB m b K := by rw [addB_eq]; exact h
theorem setB_of {m : List Blk} {b c : Blk} {K : List Blk → Prop} (h : K (m ++ [c])) : setB (m ++ [b]) m.length c K := by rw [setB_eq]; simpa using h
theorem getB_last (m : List Blk) (b : Blk) : getB (m ++ [b]) m.length = b := by
  rw [getB_eq, List.getD_eq_getElem?_getD]; simp
theorem setB_last (m : List Blk) (b c : Blk) (K : List Blk → Prop) : setB (m ++ [b]) m.length c K = K (m ++ [c]) := by
  rw [setB_eq]; simp
theorem bhL_get (n : Nat) : ∀ (l : List Ed) (e : Nat) (x : Ed), l[e]? = some x → (bhL n l).getD (e * 2) 0 = ((nbC n x.1 ((x.2.1 + 2) % 4)).1 : Int) ∧ (bhL n l).getD (e * 2 + 1) 0 = ((nbC n x.2.2.1 ((x.2.2.2 + 2) % 4)).1 : Int)
  | [], e, x, h => by simp at h
  | y :: l, 0, x, h => by simp at h; subst h; exact ⟨rfl, rfl⟩
  | y :: l, e + 1, x, h => by
    have h : l[e]? = some x := by simpa using h
    obtain ⟨h1, h2⟩ := bhL_get n l e x h
    have k : ∀ j, (bhL n (y :: l)).getD (2 + j) 0 = (bhL n l).getD j 0 := by
      intro j
      simp only [bhL, bhE, List.getD_eq_getElem?_getD, List.cons_append, List.nil_append]
      rw [show 2 + j = j + 1 + 1 by omega]
      simp only [List.getElem?_cons_succ]
    rw [show (e + 1) * 2 = 2 + e * 2 by omega, show 2 + e * 2 + 1 = 2 + (e * 2 + 1) by omega, k, k]
    exact ⟨h1, h2⟩
theorem arL_get (n : Nat) : ∀ (k c : Nat), c < k → (arL n k).getD c 0 = areaC n c
  | 0, c, h => absurd h (Nat.not_lt_zero c)
  | k + 1, c, h => by
    simp only [arL, List.getD_eq_getElem?_getD]
    rcases Nat.lt_or_ge c k with h1 | h1
    · rw [List.getElem?_append_left (by rw [arL_len]; exact h1), ← List.getD_eq_getElem?_getD]
      exact arL_get n k c h1
    · obtain rfl : c = k := by omega
      rw [List.getElem?_append_right (by rw [arL_len]; exact Nat.le_refl _), arL_len]
      simp
section
variable {m : List Blk} {b n : Nat} (N : Net m b n)
include N
theorem side_ok : COk Tryz.prog 3 40 [.ptr (b + 1) 0] m (I n) m := by
  refine COk_quiet Tryz.f40 Tryz.func40 (by kernel_rfl) rfl ?_
  conv => whnf
  rw [N.gr]
  conv => whnf
  exact ⟨rfl, [], by simp⟩
theorem gcells_ok : COk Tryz.prog 3 41 [.ptr (b + 1) 0] m (I (6 * (n * n) : Nat)) m := by
  refine COk_quiet Tryz.f41 Tryz.func41 (by kernel_rfl) rfl ?_
  conv => whnf
  rw [N.gr]
  conv => whnf
  exact ⟨rfl, [], by simp⟩
theorem gedges_ok : COk Tryz.prog 3 42 [.ptr (b + 1) 0] m (I (edges n).length) m := by
  refine COk_quiet Tryz.f42 Tryz.func42 (by kernel_rfl) rfl ?_
  conv => whnf
  rw [N.gr]
  conv => whnf
  exact ⟨rfl, [], by simp⟩
theorem is_ok (e : Int) : COk Tryz.prog 3 56 [.ptr (b + 1) 0, I e] m (Bo (decide (0 ≤ e ∧ e < (edges n).length))) m := by
  refine COk_quiet Tryz.f56 Tryz.func56 (by kernel_rfl) rfl ?_
  conv => whnf
  refine br_intro (fun h => ?_) (fun h => ?_) <;> conv => whnf
  · rw [N.gr]
    conv => whnf
    refine ⟨?_, [], by simp⟩
    congr 1
    have h : 0 ≤ e := of_decide_eq_true h
    simp [h]
  · refine ⟨?_, [], by simp⟩
    congr 1
    have h : ¬ 0 ≤ e := of_decide_eq_false h
    simp [h]
theorem edge_ok (e : Nat) (x : Ed) (hx : (edges n)[e]? = some x) : COk Tryz.prog 3 17 [.ptr (b + 1) 0, I e] m (.tup [.agg [I x.1, I x.2.1, I x.2.2.1, I x.2.2.2], Bo true]) m := by
  have he : e < (edges n).length := (List.getElem?_eq_some_iff.1 hx).1
  obtain ⟨r1, r2, r3, r4⟩ := flatE_get (edges n) e _ hx
  have hfl := flatE_len (edges n)
  refine COk_quiet Tryz.f17 Tryz.func17 (by kernel_rfl) rfl ?_
  conv => whnf
  refine addB_of ?_
  conv => whnf
  refine ⟨_, _, is_ok (N.more _) e, ?_⟩
  rw [decide_eq_true ⟨by omega, by omega⟩]
  conv => whnf
  rw [(N.more _).gr]
  conv => whnf
  refine br_d ⟨by omega, by omega⟩ ?_
  conv => whnf
  rw [(N.more _).ed]
  have hbl : ∀ j, j < (flatE (edges n)).length → Nat.blt j (flatE (edges n)).length = true := fun j hj => by simpa using hj
  conv => whnf
  refine br_yes (hbl (0 + e * 4) (by omega)) ?_
  conv => whnf
  refine br_yes (hbl (0 + e * 4 + 1) (by omega)) ?_
  conv => whnf
  refine br_yes (hbl (0 + e * 4 + 1 + 1) (by omega)) ?_
  conv => whnf
  refine br_yes (hbl (0 + e * 4 + 1 + 1 + 1) (by omega)) ?_
  conv => whnf
  rw [getB_last]
  conv => whnf
  refine setB_of ?_
  conv => whnf
  rw [getB_last]
  conv => whnf
  refine ⟨?_, _, rfl⟩
  show V.tup [.agg [I ((flatE (edges n)).getD (0 + e * 4) 0), I ((flatE (edges n)).getD (0 + e * 4 + 1) 0), I ((flatE (edges n)).getD (0 + e * 4 + 1 + 1) 0), I ((flatE (edges n)).getD (0 + e * 4 + 1 + 1 + 1) 0)], Bo true] = _
  rw [Nat.zero_add, r1, r2, r3, r4]
theorem edge_no (e : Int) (he : ¬ (0 ≤ e ∧ e < (edges n).length)) : COk Tryz.prog 3 17 [.ptr (b + 1) 0, I e] m (.tup [.agg [I 0, I 0, I 0, I 0], Bo false]) m := by
  refine COk_quiet Tryz.f17 Tryz.func17 (by kernel_rfl) rfl ?_
  conv => whnf
  refine addB_of ?_
  conv => whnf
  refine ⟨_, _, is_ok (N.more _) e, ?_⟩
  rw [decide_eq_false he]
  conv => whnf
  rw [getB_last]
  conv => whnf
  refine setB_of ?_
  conv => whnf
  rw [getB_last]
  conv => whnf
  exact ⟨rfl, _, rfl⟩
theorem behind_ok (e : Nat) (x : Ed) (hx : (edges n)[e]? = some x) : COk Tryz.prog 3 18 [.ptr (b + 1) 0, I e] m (.tup [I (nbC n x.1 ((x.2.1 + 2) % 4)).1, I (nbC n x.2.2.1 ((x.2.2.2 + 2) % 4)).1, Bo true]) m := by
  have he : e < (edges n).length := (List.getElem?_eq_some_iff.1 hx).1
  have hfl := bhL_len n (edges n)
  obtain ⟨r1, r2⟩ := bhL_get n (edges n) e _ hx
  refine COk_quiet Tryz.f18 Tryz.func18 (by kernel_rfl) rfl ?_
  conv => whnf
  refine ⟨_, _, is_ok N e, ?_⟩
  rw [decide_eq_true ⟨by omega, by omega⟩]
  conv => whnf
  rw [N.gr]
  conv => whnf
  refine br_d ⟨by omega, by omega⟩ ?_
  conv => whnf
  rw [N.bh]
  conv => whnf
  refine br_yes (show Nat.blt (0 + e * 2 + 0 * 1) (bhL n (edges n)).length = true by rw [hfl]; simp; omega) ?_
  conv => whnf
  rw [N.gr]
  conv => whnf
  refine br_d ⟨by omega, by omega⟩ ?_
  conv => whnf
  rw [N.bh]
  conv => whnf
  refine br_yes (show Nat.blt (0 + e * 2 + 1 * 1) (bhL n (edges n)).length = true by rw [hfl]; simp; omega) ?_
  conv => whnf
  refine ⟨?_, [], by simp⟩
  show V.tup [I ((bhL n (edges n)).getD (0 + e * 2 + 0 * 1) 0), I ((bhL n (edges n)).getD (0 + e * 2 + 1 * 1) 0), Bo true] = _
  rw [show 0 + e * 2 + 0 * 1 = e * 2 by omega, show 0 + e * 2 + 1 * 1 = e * 2 + 1 by omega, r1, r2]
theorem area_ok (c : Nat) (hc : c < 6 * (n * n)) : COk Tryz.prog 3 30 [.ptr (b + 1) 0, I c] m (I (areaC n c)) m := by
  refine COk_quiet Tryz.f30 Tryz.func30 (by kernel_rfl) rfl ?_
  conv => whnf
  rw [N.gr]
  conv => whnf
  refine br_nd (by omega) ?_
  conv => whnf
  rw [N.gr]
  conv => whnf
  refine br_d ⟨by omega, by omega⟩ ?_
  conv => whnf
  rw [N.ar]
  conv => whnf
  refine br_yes (show Nat.blt (0 + c * 1) (arL n (6 * (n * n))).length = true by rw [arL_len]; simp; omega) ?_
  conv => whnf
  refine ⟨?_, [], by simp⟩
  show I ((arL n (6 * (n * n))).getD (0 + c * 1) 0) = _
  rw [show 0 + c * 1 = c by omega, arL_get n _ c hc]
theorem around_no (c s : Int) (h : numF n c s = none) : COk Tryz.prog 3 47 [.ptr (b + 1) 0, I c, I s] m (.tup [I 0, I 0]) m := by
  refine COk_quiet Tryz.f47 Tryz.func47 (by kernel_rfl) rfl ?_
  conv => whnf
  rw [N.gr]
  conv => whnf
  refine ⟨⟨_, pm⟩, ?_⟩
  rw [N.mp]
  conv => whnf
  rw [h]
  conv => whnf
  exact ⟨rfl, [], by simp⟩
theorem around_ok (c s : Int) (e : Nat) (x : Ed) (h : numF n c s = some (e : Int)) (hx : (edges n)[e]? = some x) : COk Tryz.prog 3 47 [.ptr (b + 1) 0, I c, I s] m (.tup [I e, I (if (x.1 : Int) = c then 1 else -1)]) m := by
  have he : e < (edges n).length := (List.getElem?_eq_some_iff.1 hx).1
  obtain ⟨r1, _, _, _⟩ := flatE_get (edges n) e _ hx
  have hfl := flatE_len (edges n)
  refine COk_quiet Tryz.f47 Tryz.func47 (by kernel_rfl) rfl ?_
  conv => whnf
  rw [N.gr]
  conv => whnf
  refine ⟨⟨_, pm⟩, ?_⟩
  rw [N.mp]
  conv => whnf
  rw [h]
  conv => whnf
  rw [N.gr]
  conv => whnf
  refine br_d ⟨by omega, by omega⟩ ?_
  conv => whnf
  rw [N.ed]
  conv => whnf
  refine br_yes (show Nat.blt (0 + e * 4 + 0) (flatE (edges n)).length = true by simp; omega) ?_
  conv => whnf
  show br ((flatE (edges n)).getD (0 + e * 4 + 0) 0 == c) _ _
  rw [show (flatE (edges n)).getD (0 + e * 4 + 0) 0 = (x.1 : Int) by rw [show 0 + e * 4 + 0 = e * 4 by omega]; exact r1]
  by_cases hc : (x.1 : Int) = c
  · rw [if_pos hc]
    refine br_eq hc ?_
    conv => whnf
    exact ⟨rfl, [], by simp⟩
  · rw [if_neg hc]
    refine br_neq hc ?_
    conv => whnf
    exact ⟨rfl, [], by simp⟩
theorem ggap_ok (e : Nat) (x : Ed) (hx : (edges n)[e]? = some x) : COk Tryz.prog 3 101 [.ptr (b + 1) 0, I e] m (F (gpE n x)) m := by
  have he : e < (edges n).length := (List.getElem?_eq_some_iff.1 hx).1
  refine COk_quiet Tryz.f101 Tryz.func101 (by kernel_rfl) rfl ?_
  conv => whnf
  refine ⟨_, _, is_ok N e, ?_⟩
  rw [decide_eq_true ⟨by omega, by omega⟩]
  conv => whnf
  rw [N.gr]
  conv => whnf
  refine br_d ⟨by omega, by omega⟩ ?_
  conv => whnf
  rw [N.gp]
  conv => whnf
  refine br_yes (show Nat.blt (0 + e * 1) ((edges n).map (gpE n)).length = true by simp [he]) ?_
  conv => whnf
  refine ⟨?_, [], by simp⟩
  show F (((edges n).map (gpE n)).getD (0 + e * 1) 0) = _
  rw [List.getD_eq_getElem?_getD, List.getElem?_map, show 0 + e * 1 = e by omega, hx]; rfl
theorem glength_ok (e : Nat) (x : Ed) (hx : (edges n)[e]? = some x) : COk Tryz.prog 3 20 [.ptr (b + 1) 0, I e] m (F (lnE n x)) m := by
  have he : e < (edges n).length := (List.getElem?_eq_some_iff.1 hx).1
  refine COk_quiet Tryz.f20 Tryz.func20 (by kernel_rfl) rfl ?_
  conv => whnf
  refine ⟨_, _, is_ok N e, ?_⟩
  rw [decide_eq_true ⟨by omega, by omega⟩]
  conv => whnf
  rw [N.gr]
  conv => whnf
  refine br_d ⟨by omega, by omega⟩ ?_
  conv => whnf
  rw [N.ln]
  conv => whnf
  refine br_yes (show Nat.blt (0 + e * 1) ((edges n).map (lnE n)).length = true by simp [he]) ?_
  conv => whnf
  refine ⟨?_, [], by simp⟩
  show F (((edges n).map (lnE n)).getD (0 + e * 1) 0) = _
  rw [List.getD_eq_getElem?_getD, List.getElem?_map, show 0 + e * 1 = e by omega, hx]; rfl
end
end Go.Proofs.YtemaeembndobaaaGreatDoor
