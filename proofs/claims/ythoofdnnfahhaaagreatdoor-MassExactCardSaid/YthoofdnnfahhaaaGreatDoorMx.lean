/- The document's moving of water beside the program's. No condition. -/
import Derived.Test.YthoofdnnfahhaaaGreatDoorMra
import Derived.Test.YthoofdnnfahhaaaGreatDoorRq
namespace Go.Proofs.YthoofdnnfahhaaaGreatDoor
open Go Go.Eng
set_option maxRecDepth 100000
set_option linter.unusedSimpArgs false
set_option linter.unusedVariables false

set_option maxHeartbeats 0 in
theorem bigtake_ok {M : List Blk} (hsc : scM M.length M = true) {a b c d x : Int} (hx : in64 x) (h : 0 ≤ a ∧ 0 ≤ b ∧ 0 ≤ c ∧ 0 ≤ d ∧ a < 4611686018427387904 ∧ b < 4611686018427387904 ∧ c < 4611686018427387904 ∧ d < 4611686018427387904) :
    COk Tryz.prog 3 106 [.ptr M.length 0, .int .i64 x] (M ++ [bigB a b c d]) (.tup []) (M ++ [bigB (a + hiN x) (b + loN x) (c + hiP x) (d + loP x)]) := by
  refine COk_of_ev Tryz.f106 Tryz.func106 (by kernel_rfl) (by simp) rfl (.inr (scM_app (scM_mono (by simp) _ hsc) rfl)) ?_
  have e0 : IntKind.u64.wrap x = if x < 0 then x + 18446744073709551616 else x := by rw [wrapU_mod]; split <;> omega
  by_cases hn : x < 0
  · have e1 : IntKind.u64.wrap (IntKind.u64.wrap (IntKind.i64.wrap (0 - IntKind.i64.wrap (x + 1))) + 1) = -x := by
      rw [wrap_id (n := x + 1) (by omega) (by omega), wrap_id (n := 0 - (x + 1)) (by omega) (by omega), wrap_u (n := 0 - (x + 1)) (by omega) (by omega), wrap_u (by omega) (by omega)]; omega
    have e2 : IntKind.u64.wrap ((-x).tdiv 4294967296) = (-x) / 4294967296 := by rw [Int.tdiv_eq_ediv_of_nonneg (by omega), wrap_u (by omega) (by omega)]
    have e3 : (-x).tmod 4294967296 = (-x) % 4294967296 := by rw [Int.tmod_eq_emod_of_nonneg (by omega)]
    (conv => whnf); repeat ((first | rw [e1, e2] | refine br_d (by omega) ?_ | refine setB_app0 ?_ | rw [getB_app0]); conv => whnf)
    try rw [e3]
    rw [wrap_u (n := a + (-x) / 4294967296) (by omega) (by omega), wrap_u (n := b + (-x) % 4294967296) (by omega) (by omega)]
    refine ⟨rfl, [], ?_⟩
    rw [List.append_nil, hiP, loP, hiN, loN, if_pos hn, if_pos hn, if_pos hn, if_pos hn, Int.add_zero, Int.add_zero]
    rfl
  · have e1 : IntKind.u64.wrap x = x := wrap_u (by omega) (by omega)
    have e2 : IntKind.u64.wrap (x.tdiv 4294967296) = x / 4294967296 := by rw [Int.tdiv_eq_ediv_of_nonneg (by omega), wrap_u (by omega) (by omega)]
    have e3 : x.tmod 4294967296 = x % 4294967296 := by rw [Int.tmod_eq_emod_of_nonneg (by omega)]
    (conv => whnf); repeat ((first | rw [e1, e2] | rw [e1, e3] | refine br_nd (by omega) ?_ | refine setB_app0 ?_ | rw [getB_app0]); conv => whnf)
    try rw [e3]
    rw [wrap_u (n := c + x / 4294967296) (by omega) (by omega), wrap_u (n := d + x % 4294967296) (by omega) (by omega)]
    refine ⟨rfl, [], ?_⟩
    rw [List.append_nil, hiP, loP, hiN, loN, if_neg hn, if_neg hn, if_neg hn, if_neg hn, Int.add_zero, Int.add_zero]
    rfl
/-! ### What comes into a cell, over its sides -/
def numE (n c s : Nat) : Nat := ((numF n c s).getD 0).toNat
def leftB (n c s : Nat) : Bool := decide (c < (nbC n c s).1)
theorem num_is {n c s : Nat} (hn : 1 ≤ n) (hc : c < 6 * (n * n)) (hs : s < 4) : numF n c s = some ((numE n c s : Nat) : Int) ∧ ∃ x, (edges n)[numE n c s]? = some x ∧
    ((leftB n c s = true ∧ x.1 = c ∧ x.2.2.1 ≠ c ∧ x.2.1 = s) ∨ (leftB n c s = false ∧ x.2.2.1 = c ∧ x.1 ≠ c ∧ x.2.2.2 = s)) := by
  obtain ⟨e, x, h1, h2, h3⟩ := num_at hn hc hs
  have e1 : numE n c s = e := by unfold numE; rw [h1]; rfl
  rw [e1]
  refine ⟨h1, x, h2, ?_⟩
  unfold leftB
  rcases h3 with ⟨rfl, h⟩ | ⟨rfl, h⟩
  · exact .inl ⟨decide_eq_true h, rfl, by simp only; omega, rfl⟩
  · exact .inr ⟨decide_eq_false (by omega), rfl, by simp only; omega, rfl⟩
def tmS (n : Nat) (F : Nat → Int) (c t : Nat) : Int := if leftB n c t = true then -F (numE n c t) else F (numE n c t)
def Gs (n : Nat) (F : Nat → Int) (c k t : Nat) : Int := if numE n c t < k then tmS n F c t else 0
theorem Gs_ne {n : Nat} {F : Nat → Int} {c k t : Nat} (h : numE n c t ≠ k) : Gs n F c (k + 1) t = Gs n F c k t := by
  unfold Gs
  by_cases h1 : numE n c t < k
  · rw [if_pos (by omega), if_pos h1]
  · rw [if_neg (by omega), if_neg h1]
theorem Gs_at {n : Nat} {F : Nat → Int} {c k t : Nat} (h : numE n c t = k) : Gs n F c (k + 1) t = Gs n F c k t + tmS n F c t := by
  unfold Gs
  rw [if_pos (by omega), if_neg (by omega)]; omega
theorem dl_sides {n : Nat} (hn : 1 ≤ n) (F : Nat → Int) {c : Nat} (hc : c < 6 * (n * n)) : ∀ k, k ≤ (edges n).length → dl n F k c = Gs n F c k 0 + Gs n F c k 1 + Gs n F c k 2 + Gs n F c k 3
  | 0, _ => by
    have h : ∀ t, Gs n F c 0 t = 0 := fun t => by unfold Gs; rw [if_neg (by omega)]
    rw [h, h, h, h]; rfl
  | k + 1, hk => by
    have ih := dl_sides hn F hc k (by omega)
    obtain ⟨x, hx⟩ : ∃ x, (edges n)[k]? = some x := ⟨_, List.getElem?_eq_getElem (by omega)⟩
    rw [dl_step hx, ih]
    obtain ⟨e1, e2, e3, e4, e5, e6, e7⟩ := edge_of hn hx
    obtain ⟨l1, l2⟩ := num_left hn hx
    have hin : ∀ t, t < 4 → numE n c t = k → (x.1 = c ∧ x.2.1 = t) ∨ (x.2.2.1 = c ∧ x.2.2.2 = t) := fun t ht he => by
      obtain ⟨h1, y, hy, h⟩ := num_is hn hc ht
      rw [he, hx] at hy
      injection hy with hy
      subst hy
      rcases h with ⟨_, p, _, q⟩ | ⟨_, p, _, q⟩
      · exact .inl ⟨p, q⟩
      · exact .inr ⟨p, q⟩
    by_cases hL : x.1 = c
    · have hR : x.2.2.1 ≠ c := by omega
      rw [if_pos hL, if_neg hR]
      have hs : numE n c x.2.1 = k := by unfold numE; rw [← hL, l1]; rfl
      have hl : tmS n F c x.2.1 = -F k := by
        unfold tmS leftB; rw [if_pos (decide_eq_true (by rw [← hL, e6]; exact e3)), hs]
      have ho : ∀ t, t < 4 → t ≠ x.2.1 → numE n c t ≠ k := fun t ht hne he => by
        rcases hin t ht he with ⟨_, h⟩ | ⟨h, _⟩
        · exact hne h.symm
        · exact hR h
      generalize x.2.1 = s at *
      rcases (show s = 0 ∨ s = 1 ∨ s = 2 ∨ s = 3 by omega) with rfl | rfl | rfl | rfl
      · rw [Gs_at hs, Gs_ne (ho 1 (by decide) (by decide)), Gs_ne (ho 2 (by decide) (by decide)), Gs_ne (ho 3 (by decide) (by decide))]; omega
      · rw [Gs_at hs, Gs_ne (ho 0 (by decide) (by decide)), Gs_ne (ho 2 (by decide) (by decide)), Gs_ne (ho 3 (by decide) (by decide))]; omega
      · rw [Gs_at hs, Gs_ne (ho 1 (by decide) (by decide)), Gs_ne (ho 0 (by decide) (by decide)), Gs_ne (ho 3 (by decide) (by decide))]; omega
      · rw [Gs_at hs, Gs_ne (ho 1 (by decide) (by decide)), Gs_ne (ho 2 (by decide) (by decide)), Gs_ne (ho 0 (by decide) (by decide))]; omega
    · rw [if_neg hL]
      by_cases hR : x.2.2.1 = c
      · rw [if_pos hR]
        have hs : numE n c x.2.2.2 = k := by unfold numE; rw [← hR, l2]; rfl
        have hb := nbC_back hn e1 e2
        rw [e6] at hb
        simp only at hb
        have hl : tmS n F c x.2.2.2 = F k := by
          unfold tmS leftB; rw [if_neg (by rw [decide_eq_false (by rw [← hR, hb]; simp only; omega)]; decide), hs]
        have ho : ∀ t, t < 4 → t ≠ x.2.2.2 → numE n c t ≠ k := fun t ht hne he => by
          rcases hin t ht he with ⟨h, _⟩ | ⟨_, h⟩
          · exact hL h
          · exact hne h.symm
        generalize x.2.2.2 = s at *
        rcases (show s = 0 ∨ s = 1 ∨ s = 2 ∨ s = 3 by omega) with rfl | rfl | rfl | rfl
        · rw [Gs_at hs, Gs_ne (ho 1 (by decide) (by decide)), Gs_ne (ho 2 (by decide) (by decide)), Gs_ne (ho 3 (by decide) (by decide))]; omega
        · rw [Gs_at hs, Gs_ne (ho 0 (by decide) (by decide)), Gs_ne (ho 2 (by decide) (by decide)), Gs_ne (ho 3 (by decide) (by decide))]; omega
        · rw [Gs_at hs, Gs_ne (ho 1 (by decide) (by decide)), Gs_ne (ho 0 (by decide) (by decide)), Gs_ne (ho 3 (by decide) (by decide))]; omega
        · rw [Gs_at hs, Gs_ne (ho 1 (by decide) (by decide)), Gs_ne (ho 2 (by decide) (by decide)), Gs_ne (ho 0 (by decide) (by decide))]; omega
      · rw [if_neg hR]
        have ho : ∀ t, t < 4 → numE n c t ≠ k := fun t ht he => by
          rcases hin t ht he with ⟨h, _⟩ | ⟨h, _⟩
          · exact hL h
          · exact hR h
        rw [Gs_ne (ho 0 (by decide)), Gs_ne (ho 1 (by decide)), Gs_ne (ho 2 (by decide)), Gs_ne (ho 3 (by decide))]; omega
/-! ### The four words of a cell's sum -/
def q4 (n : Nat) (F : Nat → Int) (w : Int) (c : Nat) : Nat → Int × Int × Int × Int
  | 0 => (0 + hiP w, 0 + loP w, 0 + hiN w, 0 + loN w)
  | s + 1 => if leftB n c s = true then ((q4 n F w c s).1 + hiN (F (numE n c s)), (q4 n F w c s).2.1 + loN (F (numE n c s)), (q4 n F w c s).2.2.1 + hiP (F (numE n c s)), (q4 n F w c s).2.2.2 + loP (F (numE n c s)))
    else ((q4 n F w c s).1 + hiP (F (numE n c s)), (q4 n F w c s).2.1 + loP (F (numE n c s)), (q4 n F w c s).2.2.1 + hiN (F (numE n c s)), (q4 n F w c s).2.2.2 + loN (F (numE n c s)))
theorem q4_bd {n : Nat} {F : Nat → Int} {w : Int} {c : Nat} (hw : in64 w) (hF : ∀ s, s < 4 → in64 (F (numE n c s))) : ∀ s, s ≤ 4 → 0 ≤ (q4 n F w c s).1 ∧ 0 ≤ (q4 n F w c s).2.1 ∧ 0 ≤ (q4 n F w c s).2.2.1 ∧ 0 ≤ (q4 n F w c s).2.2.2 ∧
    (q4 n F w c s).1 ≤ 4294967296 * ((s : Int) + 1) ∧ (q4 n F w c s).2.1 ≤ 4294967296 * ((s : Int) + 1) ∧ (q4 n F w c s).2.2.1 ≤ 4294967296 * ((s : Int) + 1) ∧ (q4 n F w c s).2.2.2 ≤ 4294967296 * ((s : Int) + 1)
  | 0, _ => by
    have := parts_bd w hw
    unfold q4; simp only
    omega
  | s + 1, hs => by
    have ih := q4_bd hw hF s (by omega)
    have := parts_bd _ (hF s (by omega))
    unfold q4
    split <;> (simp only; omega)
theorem q4_val {n : Nat} (F : Nat → Int) (w : Int) (c : Nat) : (q4 n F w c 4).1 * 4294967296 + (q4 n F w c 4).2.1 - ((q4 n F w c 4).2.2.1 * 4294967296 + (q4 n F w c 4).2.2.2) = w + (tmS n F c 0 + tmS n F c 1 + tmS n F c 2 + tmS n F c 3) := by
  have st : ∀ s, (q4 n F w c (s + 1)).1 * 4294967296 + (q4 n F w c (s + 1)).2.1 - ((q4 n F w c (s + 1)).2.2.1 * 4294967296 + (q4 n F w c (s + 1)).2.2.2) = (q4 n F w c s).1 * 4294967296 + (q4 n F w c s).2.1 - ((q4 n F w c s).2.2.1 * 4294967296 + (q4 n F w c s).2.2.2) + tmS n F c s := fun s => by
    have := parts_sum (F (numE n c s))
    unfold tmS
    rw [q4]
    split <;> (simp only; omega)
  have s0 := st 0
  have s1 := st 1
  have s2 := st 2
  have s3 := st 3
  simp only [Nat.reduceAdd] at s0 s1 s2 s3
  have s9 : (q4 n F w c 0).1 * 4294967296 + (q4 n F w c 0).2.1 - ((q4 n F w c 0).2.2.1 * 4294967296 + (q4 n F w c 0).2.2.2) = w := by
    have := parts_sum w
    unfold q4; simp only; omega
  omega
theorem q4_tot {n : Nat} (hn : 1 ≤ n) {w f : List Int} (hf : f.length = (edges n).length) {c : Nat} (hc : c < 6 * (n * n)) : (q4 n (fL f) (w.getD c 0) c 4).1 * 4294967296 + (q4 n (fL f) (w.getD c 0) c 4).2.1 - ((q4 n (fL f) (w.getD c 0) c 4).2.2.1 * 4294967296 + (q4 n (fL f) (w.getD c 0) c 4).2.2.2) = tot n w f c := by
  rw [q4_val]
  unfold tot
  rw [hf, dl_sides hn _ hc _ (Nat.le_refl _)]
  have h : ∀ t, t < 4 → Gs n (fL f) c (edges n).length t = tmS n (fL f) c t := fun t ht => by
    obtain ⟨_, x, hx, _⟩ := num_is hn hc ht
    unfold Gs
    rw [if_pos (List.getElem?_eq_some_iff.1 hx).1]
  rw [h 0 (by decide), h 1 (by decide), h 2 (by decide), h 3 (by decide)]
theorem rmove_nil {M : List Blk} {v1 v2 : V} {w f : List Int} (h1 : Sli M v1 w) (h2 : Sli M v2 f) : COk Tryz.prog 3 36 [nilP, v1, v2] M (.tup [nilS', I 2]) M := by
  rcases h1 with ⟨rfl, rfl⟩ | ⟨j1, o1, rfl, h1⟩ <;> rcases h2 with ⟨rfl, rfl⟩ | ⟨j2, o2, rfl, h2⟩
  all_goals
    refine COk_quiet Tryz.f36 Tryz.func36 (by kernel_rfl) rfl ?_
    (conv => whnf)
    exact ⟨rfl, [], by simp⟩
theorem rrmove_nil {M : List Blk} {v1 v2 : V} {w f : List Int} (h1 : Sli M v1 w) (h2 : Sli M v2 f) : COk Tryz.prog 3 37 [nilP, v1, v2] M (.tup [nilS', I 2]) M := by
  rcases h1 with ⟨rfl, rfl⟩ | ⟨j1, o1, rfl, h1⟩ <;> rcases h2 with ⟨rfl, rfl⟩ | ⟨j2, o2, rfl, h2⟩
  all_goals
    refine COk_quiet Tryz.f37 Tryz.func37 (by kernel_rfl) rfl ?_
    (conv => whnf)
    exact ⟨rfl, [], by simp⟩
theorem rmove_arg {M : List Blk} {b n : Nat} (hN : RNet M b n) (hn : 1 ≤ n) (hn' : n ≤ 32) {v1 v2 : V} {w f : List Int} (h1 : Sli M v1 w) (h2 : Sli M v2 f) (h : w.length ≠ 6 * (n * n) ∨ f.length ≠ (edges n).length) :
    COk Tryz.prog 3 37 [.ptr (b + 1) 0, v1, v2] M (.tup [nilS', I 1]) M := by
  by_cases hw : w.length = 6 * (n * n)
  · have hf : f.length ≠ (edges n).length := h.resolve_left (fun h => h hw)
    rcases h1 with ⟨rfl, rfl⟩ | ⟨j1, o1, rfl, h1⟩ <;> rcases h2 with ⟨rfl, rfl⟩ | ⟨j2, o2, rfl, h2⟩
    all_goals
      (try rw [List.length_nil] at hw)
      (try rw [List.length_nil] at hf)
      refine COk_quiet Tryz.f37 Tryz.func37 (by kernel_rfl) rfl ?_
      (conv => whnf); repeat ((first | refine ⟨_, _, rgcells_ok hN hn hn', ?_⟩ | refine ⟨_, _, rgedges_ok hN, ?_⟩ | refine br_ne (by omega) ?_ | refine br_no (bo_eqn (by omega)) ?_); conv => whnf)
      exact ⟨rfl, [], by simp⟩
  · rcases h1 with ⟨rfl, rfl⟩ | ⟨j1, o1, rfl, h1⟩ <;> rcases h2 with ⟨rfl, rfl⟩ | ⟨j2, o2, rfl, h2⟩
    all_goals
      (try rw [List.length_nil] at hw)
      refine COk_quiet Tryz.f37 Tryz.func37 (by kernel_rfl) rfl ?_
      (conv => whnf); repeat ((first | refine ⟨_, _, rgcells_ok hN hn hn', ?_⟩ | refine br_ne (by omega) ?_); conv => whnf)
      exact ⟨rfl, [], by simp⟩
def q4B (q : Int × Int × Int × Int) : Blk := bigB q.1 q.2.1 q.2.2.1 q.2.2.2
theorem cell_add {K : List Blk} (hK : scM K.length K = true) {n c : Nat} {F : Nat → Int} {x : Int} (hx : in64 x) : COk Tryz.prog 3 105 [.ptr K.length 0, .int .i64 x] (K ++ [bigB 0 0 0 0]) (.tup []) (K ++ [q4B (q4 n F x c 0)]) :=
  bigadd_ok hK hx (by decide)
theorem cell_left {K : List Blk} (hK : scM K.length K = true) {n c s : Nat} {F : Nat → Int} {w x : Int} (hw : in64 w) (hF : ∀ s, s < 4 → in64 (F (numE n c s))) (hs : s < 4) (hl : leftB n c s = true) (hx : x = F (numE n c s)) : COk Tryz.prog 3 106 [.ptr K.length 0, .int .i64 x] (K ++ [q4B (q4 n F w c s)]) (.tup []) (K ++ [q4B (q4 n F w c (s + 1))]) := by
  have hb := q4_bd hw hF s (by omega)
  subst hx
  rw [show q4B (q4 n F w c (s + 1)) = bigB ((q4 n F w c s).1 + hiN (F (numE n c s))) ((q4 n F w c s).2.1 + loN (F (numE n c s))) ((q4 n F w c s).2.2.1 + hiP (F (numE n c s))) ((q4 n F w c s).2.2.2 + loP (F (numE n c s))) by rw [q4, if_pos hl]; rfl]
  exact bigtake_ok hK (hF s hs) (by omega)
theorem cell_right {K : List Blk} (hK : scM K.length K = true) {n c s : Nat} {F : Nat → Int} {w x : Int} (hw : in64 w) (hF : ∀ s, s < 4 → in64 (F (numE n c s))) (hs : s < 4) (hl : leftB n c s = false) (hx : x = F (numE n c s)) : COk Tryz.prog 3 105 [.ptr K.length 0, .int .i64 x] (K ++ [q4B (q4 n F w c s)]) (.tup []) (K ++ [q4B (q4 n F w c (s + 1))]) := by
  have hb := q4_bd hw hF s (by omega)
  subst hx
  rw [show q4B (q4 n F w c (s + 1)) = bigB ((q4 n F w c s).1 + hiP (F (numE n c s))) ((q4 n F w c s).2.1 + loP (F (numE n c s))) ((q4 n F w c s).2.2.1 + hiN (F (numE n c s))) ((q4 n F w c s).2.2.2 + loN (F (numE n c s))) by rw [q4, if_neg (by rw [hl]; decide)]; rfl]
  exact bigadd_ok hK (hF s hs) (by omega)
theorem cell_val {K : List Blk} {n c : Nat} (hn : 1 ≤ n) (hc : c < 6 * (n * n)) {w f : List Int} (hf : f.length = (edges n).length) (hw : in64 (w.getD c 0)) (hF : ∀ s, s < 4 → in64 (fL f (numE n c s))) :
    COk Tryz.prog 3 107 [.ptr K.length 0] (K ++ [q4B (q4 n (fL f) (w.getD c 0) c 4)]) (.tup [.int .i64 (if in64 (tot n w f c) then tot n w f c else 0), Bo (decide (in64 (tot n w f c)))]) (K ++ [q4B (q4 n (fL f) (w.getD c 0) c 4)]) := by
  have hb := q4_bd hw hF 4 (by decide)
  have ht := q4_tot hn (w := w) hf hc
  refine bigval_ok (by omega) _ ?_
  rw [ht]
  by_cases h : in64 (tot n w f c)
  · rw [if_pos h, if_pos h, decide_eq_true h]
  · rw [if_neg h, if_neg h, decide_eq_false h]
theorem cell_around {K : List Blk} {b n : Nat} (hN : RNet K b n) (hn : 1 ≤ n) (hn' : n ≤ 32) {c s : Nat} (hc : c < 6 * (n * n)) (hs : s < 4) :
    COk Tryz.prog 3 93 [.ptr (b + 1) 0, I c, I s] K (.tup [I (numE n c s : Nat), I (if leftB n c s = true then 1 else -1)]) K := by
  obtain ⟨h1, x, h2, h3⟩ := num_is hn hc hs
  have := raround_ok hN hn hn' hc hs _ x h1 h2
  rcases h3 with ⟨hl, e1, _⟩ | ⟨hl, _, e1, _⟩
  · rw [if_pos (by omega)] at this
    rw [hl]; exact this
  · rw [if_neg (by omega)] at this
    rw [hl]; exact this
abbrev Emp : Blk := ⟨true, .cells []⟩
section
variable {M : List Blk} {b n j1 o1 j2 o2 : Nat} {w f : List Int} (hsc : scM M.length M = true) (hN : RNet M b n) (hn : 1 ≤ n) (hn' : n ≤ 32) (h1 : SlI M j1 o1 w) (h2 : SlI M j2 o2 f) (hw : w.length = 6 * (n * n)) (hf : f.length = (edges n).length)
include hsc hN hn hn' h1 h2 hw hf
set_option maxHeartbeats 0 in
theorem rmove_ok (hg : ∀ c, c < w.length → 0 ≤ tot n w f c ∧ tot n w f c < 9223372036854775808) :
    COk Tryz.prog 3 37 [.ptr (b + 1) 0, .sl j1 o1 w.length, .sl j2 o2 f.length] M (.tup [.gs (M.length + 3) (w.length - 1) 1 w.length, I 0])
      (M ++ [Emp, q4B (q4 n (fL f) (w.getD 0 0) 0 4), ⟨true, .cells [.int .i64 (tot n w f 0)]⟩, ⟨true, .gints (w.length - 1) .i64 (tab w.length (tot n w f))⟩]) := by
  have hj1 := h1.lt
  have hj2 := h2.lt
  have hb := hN.lt
  have hnn : 1 ≤ n * n ∧ n * n ≤ 1024 := ⟨Nat.mul_pos hn hn, Nat.mul_le_mul hn' hn'⟩
  have hel := edges_len hn
  have c2 : Tryz.prog.cellsOf 2 = 1 := by kernel_rfl
  refine COk_of_ev Tryz.f37 Tryz.func37 (by kernel_rfl) (by simp) (by simp [V.sc, scL]) (.inr (scM_app (scM_mono (by simp) _ hsc) rfl)) ?_
  (conv => whnf); repeat ((first | refine ⟨_, _, rgcells_ok hN hn hn', ?_⟩ | refine ⟨_, _, rgedges_ok hN, ?_⟩ | refine br_no (bo_eqn (by omega)) ?_ | refine addB_f0 ?_); conv => whnf)
  rw [c2, Nat.zero_mul, List.range_zero, List.map_nil]
  refine lr ?_
  have hc0 : 0 < 6 * (n * n) := by omega
  (conv => whnf); repeat ((first | refine br_d (by omega) ?_ | refine addB_f1 ?_); conv => whnf)
  have hscK : scM (M ++ [Emp]).length (M ++ [Emp]) = true := scM_app (scM_mono (by simp) _ hsc) rfl
  have hF : ∀ s, s < 4 → in64 (fL f (numE n 0 s)) := fun s hs => by
    obtain ⟨_, x, hx, _⟩ := num_is hn hc0 hs
    have := (List.getElem?_eq_some_iff.1 hx).1
    exact h2.wf _ (by omega)
  have hA := cell_add (K := M ++ [Emp]) hscK (n := n) (c := 0) (F := fL f) (h1.wf 0 (by omega))
  have hV := cell_val (K := M ++ [Emp]) hn hc0 (w := w) hf (h1.wf 0 (by omega)) hF
  simp only [List.append_assoc, List.length_append] at hA
  simp only [List.append_assoc, List.length_append] at hV
  (conv => whnf); repeat ((first | refine SlI.at (h1.app _) (i := 0) (by omega) rfl ?_ | refine ⟨_, _, hA, ?_⟩); conv => whnf)
  refine loop_to (fun s => [.ptr (b + 1) 0, .sl j1 o1 w.length, .sl j2 o2 f.length, .any, .any, .any, .any, .any, .sk M.length 0 0 0, I (0 : Nat), .ptr (M.length + 1) 0, I s, .any, .any, .any, .any, .any, .any, .any, .any, .any, .any, .any, .any, .any, .any, .any, .any, .any, .any, .any, .any, .any, .any, .any, .any, .any, .any, .any, .any, .any, .any, .any, .any, .any, .any, .any, .any, .any, .any, .any, .any, .any, .any, .any, .any, .any, .any, .any, .any, .any, .any, .any, .any, .any, .any, .any, .any, .any, .any, .any, .any, .any, .any, .any, .any, .any, .any, .any, .any, .any, .any, .any, .any, .any, .any]) (fun s => M ++ ([Emp] ++ [q4B (q4 n (fL f) (w.getD 0 0) 0 s)])) 0 4 (by decide) ?_ ?_ ?_
  · refine Fg.of [] ?_ (by first | (rw [List.append_nil]; done) | (rw [List.append_nil]; rfl)) (by simp) (by (simp [scL, V.sc]) <;> omega) (scM_app (scM_mono (by simp) _ hsc) rfl)
    conv => whnf
    first | exact ⟨rfl, rfl, rfl, rfl, rfl, rfl, rfl, rfl⟩ | (trace_state; sorry)
  · intro s _ hs
    have hr := cell_around (hN.more ([Emp] ++ [q4B (q4 n (fL f) (w.getD 0 0) 0 s)])) hn hn' hc0 hs
    obtain ⟨_, x, hx, _⟩ := num_is hn hc0 hs
    have hx := (List.getElem?_eq_some_iff.1 hx).1
    cases hl : leftB n 0 s
    · rw [hl] at hr
      have hB := cell_right (K := M ++ [Emp]) hscK (w := w.getD 0 0) (h1.wf 0 (by omega)) hF hs hl rfl
      simp only [List.append_assoc, List.length_append] at hB
      (conv => whnf); repeat ((first | refine ⟨_, _, hr, ?_⟩ | refine SlI.at (h2.app _) (i := numE n 0 s) (by omega) rfl ?_ | refine ⟨_, _, hB, ?_⟩ | refine br_d (by omega) ?_); conv => whnf)
      refine Fg.of [] ?_ (by first | (rw [List.append_nil]; done) | (rw [List.append_nil]; rfl)) (by simp) (by (simp [scL, V.sc]) <;> omega) (scM_app (scM_mono (by simp) _ hsc) rfl)
      conv => whnf
      first | exact ⟨rfl, rfl, rfl, rfl, rfl, rfl, wrapKL (by omega), rfl⟩ | (trace_state; sorry)
    · rw [hl] at hr
      have hB := cell_left (K := M ++ [Emp]) hscK (w := w.getD 0 0) (h1.wf 0 (by omega)) hF hs hl rfl
      simp only [List.append_assoc, List.length_append] at hB
      (conv => whnf); repeat ((first | refine ⟨_, _, hr, ?_⟩ | refine SlI.at (h2.app _) (i := numE n 0 s) (by omega) rfl ?_ | refine ⟨_, _, hB, ?_⟩ | refine br_d (by omega) ?_); conv => whnf)
      refine Fg.of [] ?_ (by first | (rw [List.append_nil]; done) | (rw [List.append_nil]; rfl)) (by simp) (by (simp [scL, V.sc]) <;> omega) (scM_app (scM_mono (by simp) _ hsc) rfl)
      conv => whnf
      first | exact ⟨rfl, rfl, rfl, rfl, rfl, rfl, wrapKL (by omega), rfl⟩ | (trace_state; sorry)
  · have hg0 := hg 0 (by omega)
    have hi : in64 (tot n w f 0) := ⟨by omega, hg0.2⟩
    rw [if_pos hi, decide_eq_true hi] at hV
    (conv => whnf); repeat ((first | refine ⟨_, _, hV, ?_⟩ | refine ⟨(by show (0 + 1) * 8 ≤ 140737488355328; decide), ?_⟩ | refine br_nd (by omega) ?_ | rw [getB_app] | rw [getB_app0] | refine addB_f3 ?_ | refine addB_f2 ?_); conv => whnf)
    refine loop_to (fun k => [.ptr (b + 1) 0, .sl j1 o1 w.length, .sl j2 o2 f.length, .any, .any, .any, .any, .any, .gs (M.length + 3) (k - 1) 1 k, I k, .any, .any, .any, .any, .any, .any, .any, .any, .any, .any, .any, .any, .any, .any, .any, .any, .any, .any, .any, .any, .any, .any, .any, .any, .any, .any, .any, .any, .any, .any, .any, .any, .any, .any, .any, .any, .any, .any, .any, .any, .any, .any, .any, .any, .any, .any, .any, .any, .any, .any, .any, .any, .any, .any, .any, .any, .any, .any, .any, .any, .any, .any, .any, .any, .any, .any, .any, .any, .any, .any, .any, .any, .any, .any, .any, .any]) (fun k => M ++ [Emp, q4B (q4 n (fL f) (w.getD 0 0) 0 4), ⟨true, .cells [.int .i64 (tot n w f 0)]⟩, ⟨true, .gints (k - 1) .i64 (tab k (tot n w f))⟩]) 1 w.length (by omega) ?_ ?_ ?_
    · refine Fg.of [] ?_ (by first | (rw [List.append_nil]; done) | (rw [List.append_nil]; rfl)) (by simp) (by (simp [scL, V.sc]) <;> omega) (scM_app (scM_mono (by simp) _ hsc) rfl)
      conv => whnf
      exact ⟨rfl, rfl, rfl, rfl, wrapKV (k := 0) (by decide), rfl⟩
    · intro c hc1 hc2
      have hc : c < 6 * (n * n) := by omega
      obtain ⟨v, rfl⟩ : ∃ v, c = v + 1 := ⟨c - 1, by omega⟩
      have hgc := hg (v + 1) (by omega)
      clear hV hA hF hscK hg0 hi
      (conv => whnf); repeat ((first | refine br_d (by omega) ?_ | refine addB_f4 ?_); conv => whnf)
      have hscK : scM (M ++ [Emp, q4B (q4 n (fL f) (w.getD 0 0) 0 4), ⟨true, .cells [.int .i64 (tot n w f 0)]⟩, ⟨true, .gints v .i64 (tab (v + 1) (tot n w f))⟩]).length (M ++ [Emp, q4B (q4 n (fL f) (w.getD 0 0) 0 4), ⟨true, .cells [.int .i64 (tot n w f 0)]⟩, ⟨true, .gints v .i64 (tab (v + 1) (tot n w f))⟩]) = true := scM_app (scM_mono (by simp) _ hsc) rfl
      have hF : ∀ s, s < 4 → in64 (fL f (numE n (v + 1) s)) := fun s hs => by
        obtain ⟨_, x, hx, _⟩ := num_is hn hc hs
        have := (List.getElem?_eq_some_iff.1 hx).1
        exact h2.wf _ (by omega)
      have hA := cell_add (K := M ++ [Emp, q4B (q4 n (fL f) (w.getD 0 0) 0 4), ⟨true, .cells [.int .i64 (tot n w f 0)]⟩, ⟨true, .gints v .i64 (tab (v + 1) (tot n w f))⟩]) hscK (n := n) (c := (v + 1)) (F := fL f) (h1.wf (v + 1) (by omega))
      have hV := cell_val (K := M ++ [Emp, q4B (q4 n (fL f) (w.getD 0 0) 0 4), ⟨true, .cells [.int .i64 (tot n w f 0)]⟩, ⟨true, .gints v .i64 (tab (v + 1) (tot n w f))⟩]) hn hc (w := w) hf (h1.wf (v + 1) (by omega)) hF
      simp only [List.append_assoc, List.length_append] at hA
      simp only [List.append_assoc, List.length_append] at hV
      (conv => whnf); repeat ((first | refine SlI.at (h1.app _) (i := (v + 1)) (by omega) rfl ?_ | refine ⟨_, _, hA, ?_⟩); conv => whnf)
      refine loop_to (fun s => [.ptr (b + 1) 0, .sl j1 o1 w.length, .sl j2 o2 f.length, .any, .any, .any, .any, .any, .gs (M.length + 3) v 1 (v + 1), I ((v + 1) : Nat), .ptr (M.length + 4) 0, I s, .any, .any, .any, .any, .any, .any, .any, .any, .any, .any, .any, .any, .any, .any, .any, .any, .any, .any, .any, .any, .any, .any, .any, .any, .any, .any, .any, .any, .any, .any, .any, .any, .any, .any, .any, .any, .any, .any, .any, .any, .any, .any, .any, .any, .any, .any, .any, .any, .any, .any, .any, .any, .any, .any, .any, .any, .any, .any, .any, .any, .any, .any, .any, .any, .any, .any, .any, .any, .any, .any, .any, .any, .any, .any]) (fun s => M ++ ([Emp, q4B (q4 n (fL f) (w.getD 0 0) 0 4), ⟨true, .cells [.int .i64 (tot n w f 0)]⟩, ⟨true, .gints v .i64 (tab (v + 1) (tot n w f))⟩] ++ [q4B (q4 n (fL f) (w.getD (v + 1) 0) (v + 1) s)])) 0 4 (by decide) ?_ ?_ ?_
      · refine Fg.of [] ?_ (by first | (rw [List.append_nil]; done) | (rw [List.append_nil]; rfl)) (by simp) (by (simp [scL, V.sc]) <;> omega) (scM_app (scM_mono (by simp) _ hsc) rfl)
        conv => whnf
        first | exact ⟨rfl, rfl, rfl, rfl, rfl, rfl, rfl, rfl⟩ | (trace_state; sorry)
      · intro s _ hs
        have hr := cell_around (hN.more ([Emp, q4B (q4 n (fL f) (w.getD 0 0) 0 4), ⟨true, .cells [.int .i64 (tot n w f 0)]⟩, ⟨true, .gints v .i64 (tab (v + 1) (tot n w f))⟩] ++ [q4B (q4 n (fL f) (w.getD (v + 1) 0) (v + 1) s)])) hn hn' hc hs
        obtain ⟨_, x, hx, _⟩ := num_is hn hc hs
        have hx := (List.getElem?_eq_some_iff.1 hx).1
        cases hl : leftB n (v + 1) s
        · rw [hl] at hr
          have hB := cell_right (K := M ++ [Emp, q4B (q4 n (fL f) (w.getD 0 0) 0 4), ⟨true, .cells [.int .i64 (tot n w f 0)]⟩, ⟨true, .gints v .i64 (tab (v + 1) (tot n w f))⟩]) hscK (w := w.getD (v + 1) 0) (h1.wf (v + 1) (by omega)) hF hs hl rfl
          simp only [List.append_assoc, List.length_append] at hB
          (conv => whnf); repeat ((first | refine ⟨_, _, hr, ?_⟩ | refine SlI.at (h2.app _) (i := numE n (v + 1) s) (by omega) rfl ?_ | refine ⟨_, _, hB, ?_⟩ | refine br_d (by omega) ?_); conv => whnf)
          refine Fg.of [] ?_ (by first | (rw [List.append_nil]; done) | (rw [List.append_nil]; rfl)) (by simp) (by (simp [scL, V.sc]) <;> omega) (scM_app (scM_mono (by simp) _ hsc) rfl)
          conv => whnf
          first | exact ⟨rfl, rfl, rfl, rfl, rfl, rfl, wrapKL (by omega), rfl⟩ | (trace_state; sorry)
        · rw [hl] at hr
          have hB := cell_left (K := M ++ [Emp, q4B (q4 n (fL f) (w.getD 0 0) 0 4), ⟨true, .cells [.int .i64 (tot n w f 0)]⟩, ⟨true, .gints v .i64 (tab (v + 1) (tot n w f))⟩]) hscK (w := w.getD (v + 1) 0) (h1.wf (v + 1) (by omega)) hF hs hl rfl
          simp only [List.append_assoc, List.length_append] at hB
          (conv => whnf); repeat ((first | refine ⟨_, _, hr, ?_⟩ | refine SlI.at (h2.app _) (i := numE n (v + 1) s) (by omega) rfl ?_ | refine ⟨_, _, hB, ?_⟩ | refine br_d (by omega) ?_); conv => whnf)
          refine Fg.of [] ?_ (by first | (rw [List.append_nil]; done) | (rw [List.append_nil]; rfl)) (by simp) (by (simp [scL, V.sc]) <;> omega) (scM_app (scM_mono (by simp) _ hsc) rfl)
          conv => whnf
          first | exact ⟨rfl, rfl, rfl, rfl, rfl, rfl, wrapKL (by omega), rfl⟩ | (trace_state; sorry)
      · have hi : in64 (tot n w f (v + 1)) := ⟨by omega, hgc.2⟩
        rw [if_pos hi, decide_eq_true hi] at hV
        (conv => whnf); repeat ((first | refine ⟨_, _, hV, ?_⟩ | refine br_nd (by omega) ?_ | rw [getB_app] | refine addB_f5 ?_); conv => whnf)
        refine ⟨⟨rfl, rfl, (by show (tab (v + 1) (tot n w f)).length = (v + 1) * 1; rw [tab_len]; omega), (by show (v + 1 + 1) * 8 ≤ _; omega)⟩, ?_⟩
        (conv => whnf); repeat (refine setB_app ?_; conv => whnf)
        refine Fg.of [_, _] ?_ (by rw [List.append_assoc, show v + 1 + 1 - 1 = v + 1 from rfl, tab_succ (v + 1)]; rfl) (by simp) (by (simp [scL, V.sc]) <;> omega) (scM_app (scM_mono (by simp) _ hsc) rfl)
        conv => whnf
        exact ⟨rfl, rfl, rfl, rfl, wrapKL (by omega), rfl⟩
    · (conv => whnf); repeat (refine br_nd (by omega) ?_; conv => whnf)
      exact ⟨rfl, [], by rw [List.append_nil]⟩
set_option maxHeartbeats 0 in
theorem rmove_not {c0 : Nat} (hc0' : c0 < w.length) (hg : ∀ c, c < c0 → 0 ≤ tot n w f c ∧ tot n w f c < 9223372036854775808) (hbad : ¬ (0 ≤ tot n w f c0 ∧ tot n w f c0 < 9223372036854775808)) :
    COk Tryz.prog 3 37 [.ptr (b + 1) 0, .sl j1 o1 w.length, .sl j2 o2 f.length] M (.tup [nilS', I 20]) M := by
  have hj1 := h1.lt
  have hj2 := h2.lt
  have hb := hN.lt
  have hnn : 1 ≤ n * n ∧ n * n ≤ 1024 := ⟨Nat.mul_pos hn hn, Nat.mul_le_mul hn' hn'⟩
  have hel := edges_len hn
  have c2 : Tryz.prog.cellsOf 2 = 1 := by kernel_rfl
  refine COk_quiet Tryz.f37 Tryz.func37 (by kernel_rfl) rfl ?_
  (conv => whnf); repeat ((first | refine ⟨_, _, rgcells_ok hN hn hn', ?_⟩ | refine ⟨_, _, rgedges_ok hN, ?_⟩ | refine br_no (bo_eqn (by omega)) ?_ | refine addB_f0 ?_); conv => whnf)
  rw [c2, Nat.zero_mul, List.range_zero, List.map_nil]
  refine lr ?_
  have hc0 : 0 < 6 * (n * n) := by omega
  (conv => whnf); repeat ((first | refine br_d (by omega) ?_ | refine addB_f1 ?_); conv => whnf)
  have hscK : scM (M ++ [Emp]).length (M ++ [Emp]) = true := scM_app (scM_mono (by simp) _ hsc) rfl
  have hF : ∀ s, s < 4 → in64 (fL f (numE n 0 s)) := fun s hs => by
    obtain ⟨_, x, hx, _⟩ := num_is hn hc0 hs
    have := (List.getElem?_eq_some_iff.1 hx).1
    exact h2.wf _ (by omega)
  have hA := cell_add (K := M ++ [Emp]) hscK (n := n) (c := 0) (F := fL f) (h1.wf 0 (by omega))
  have hV := cell_val (K := M ++ [Emp]) hn hc0 (w := w) hf (h1.wf 0 (by omega)) hF
  simp only [List.append_assoc, List.length_append] at hA
  simp only [List.append_assoc, List.length_append] at hV
  (conv => whnf); repeat ((first | refine SlI.at (h1.app _) (i := 0) (by omega) rfl ?_ | refine ⟨_, _, hA, ?_⟩); conv => whnf)
  refine loop_to (fun s => [.ptr (b + 1) 0, .sl j1 o1 w.length, .sl j2 o2 f.length, .any, .any, .any, .any, .any, .sk M.length 0 0 0, I (0 : Nat), .ptr (M.length + 1) 0, I s, .any, .any, .any, .any, .any, .any, .any, .any, .any, .any, .any, .any, .any, .any, .any, .any, .any, .any, .any, .any, .any, .any, .any, .any, .any, .any, .any, .any, .any, .any, .any, .any, .any, .any, .any, .any, .any, .any, .any, .any, .any, .any, .any, .any, .any, .any, .any, .any, .any, .any, .any, .any, .any, .any, .any, .any, .any, .any, .any, .any, .any, .any, .any, .any, .any, .any, .any, .any, .any, .any, .any, .any, .any, .any]) (fun s => M ++ ([Emp] ++ [q4B (q4 n (fL f) (w.getD 0 0) 0 s)])) 0 4 (by decide) ?_ ?_ ?_
  · refine Fg.of [] ?_ (by first | (rw [List.append_nil]; done) | (rw [List.append_nil]; rfl)) (by simp) (by (simp [scL, V.sc]) <;> omega) (scM_app (scM_mono (by simp) _ hsc) rfl)
    conv => whnf
    first | exact ⟨rfl, rfl, rfl, rfl, rfl, rfl, rfl, rfl⟩ | (trace_state; sorry)
  · intro s _ hs
    have hr := cell_around (hN.more ([Emp] ++ [q4B (q4 n (fL f) (w.getD 0 0) 0 s)])) hn hn' hc0 hs
    obtain ⟨_, x, hx, _⟩ := num_is hn hc0 hs
    have hx := (List.getElem?_eq_some_iff.1 hx).1
    cases hl : leftB n 0 s
    · rw [hl] at hr
      have hB := cell_right (K := M ++ [Emp]) hscK (w := w.getD 0 0) (h1.wf 0 (by omega)) hF hs hl rfl
      simp only [List.append_assoc, List.length_append] at hB
      (conv => whnf); repeat ((first | refine ⟨_, _, hr, ?_⟩ | refine SlI.at (h2.app _) (i := numE n 0 s) (by omega) rfl ?_ | refine ⟨_, _, hB, ?_⟩ | refine br_d (by omega) ?_); conv => whnf)
      refine Fg.of [] ?_ (by first | (rw [List.append_nil]; done) | (rw [List.append_nil]; rfl)) (by simp) (by (simp [scL, V.sc]) <;> omega) (scM_app (scM_mono (by simp) _ hsc) rfl)
      conv => whnf
      first | exact ⟨rfl, rfl, rfl, rfl, rfl, rfl, wrapKL (by omega), rfl⟩ | (trace_state; sorry)
    · rw [hl] at hr
      have hB := cell_left (K := M ++ [Emp]) hscK (w := w.getD 0 0) (h1.wf 0 (by omega)) hF hs hl rfl
      simp only [List.append_assoc, List.length_append] at hB
      (conv => whnf); repeat ((first | refine ⟨_, _, hr, ?_⟩ | refine SlI.at (h2.app _) (i := numE n 0 s) (by omega) rfl ?_ | refine ⟨_, _, hB, ?_⟩ | refine br_d (by omega) ?_); conv => whnf)
      refine Fg.of [] ?_ (by first | (rw [List.append_nil]; done) | (rw [List.append_nil]; rfl)) (by simp) (by (simp [scL, V.sc]) <;> omega) (scM_app (scM_mono (by simp) _ hsc) rfl)
      conv => whnf
      first | exact ⟨rfl, rfl, rfl, rfl, rfl, rfl, wrapKL (by omega), rfl⟩ | (trace_state; sorry)
  · rcases Nat.eq_zero_or_pos c0 with h0 | h0
    · subst h0
      by_cases hi : in64 (tot n w f 0)
      · rw [if_pos hi, decide_eq_true hi] at hV
        (conv => whnf); repeat ((first | refine ⟨_, _, hV, ?_⟩ | refine br_d (by omega) ?_); conv => whnf)
        exact ⟨rfl, _, rfl⟩
      · rw [if_neg hi, decide_eq_false hi] at hV
        (conv => whnf); repeat (refine ⟨_, _, hV, ?_⟩; conv => whnf)
        exact ⟨rfl, _, rfl⟩
    have hg0 := hg 0 h0
    have hi : in64 (tot n w f 0) := ⟨by omega, hg0.2⟩
    rw [if_pos hi, decide_eq_true hi] at hV
    (conv => whnf); repeat ((first | refine ⟨_, _, hV, ?_⟩ | refine ⟨(by show (0 + 1) * 8 ≤ 140737488355328; decide), ?_⟩ | refine br_nd (by omega) ?_ | rw [getB_app] | rw [getB_app0] | refine addB_f3 ?_ | refine addB_f2 ?_); conv => whnf)
    refine loop_to (fun k => [.ptr (b + 1) 0, .sl j1 o1 w.length, .sl j2 o2 f.length, .any, .any, .any, .any, .any, .gs (M.length + 3) (k - 1) 1 k, I k, .any, .any, .any, .any, .any, .any, .any, .any, .any, .any, .any, .any, .any, .any, .any, .any, .any, .any, .any, .any, .any, .any, .any, .any, .any, .any, .any, .any, .any, .any, .any, .any, .any, .any, .any, .any, .any, .any, .any, .any, .any, .any, .any, .any, .any, .any, .any, .any, .any, .any, .any, .any, .any, .any, .any, .any, .any, .any, .any, .any, .any, .any, .any, .any, .any, .any, .any, .any, .any, .any, .any, .any, .any, .any, .any, .any]) (fun k => M ++ [Emp, q4B (q4 n (fL f) (w.getD 0 0) 0 4), ⟨true, .cells [.int .i64 (tot n w f 0)]⟩, ⟨true, .gints (k - 1) .i64 (tab k (tot n w f))⟩]) 1 c0 (by omega) ?_ ?_ ?_
    · refine Fg.of [] ?_ (by first | (rw [List.append_nil]; done) | (rw [List.append_nil]; rfl)) (by simp) (by (simp [scL, V.sc]) <;> omega) (scM_app (scM_mono (by simp) _ hsc) rfl)
      conv => whnf
      exact ⟨rfl, rfl, rfl, rfl, wrapKV (k := 0) (by decide), rfl⟩
    · intro c hc1 hc2
      have hc : c < 6 * (n * n) := by omega
      obtain ⟨v, rfl⟩ : ∃ v, c = v + 1 := ⟨c - 1, by omega⟩
      have hgc := hg (v + 1) (by omega)
      clear hV hA hF hscK hg0 hi
      (conv => whnf); repeat ((first | refine br_d (by omega) ?_ | refine addB_f4 ?_); conv => whnf)
      have hscK : scM (M ++ [Emp, q4B (q4 n (fL f) (w.getD 0 0) 0 4), ⟨true, .cells [.int .i64 (tot n w f 0)]⟩, ⟨true, .gints v .i64 (tab (v + 1) (tot n w f))⟩]).length (M ++ [Emp, q4B (q4 n (fL f) (w.getD 0 0) 0 4), ⟨true, .cells [.int .i64 (tot n w f 0)]⟩, ⟨true, .gints v .i64 (tab (v + 1) (tot n w f))⟩]) = true := scM_app (scM_mono (by simp) _ hsc) rfl
      have hF : ∀ s, s < 4 → in64 (fL f (numE n (v + 1) s)) := fun s hs => by
        obtain ⟨_, x, hx, _⟩ := num_is hn hc hs
        have := (List.getElem?_eq_some_iff.1 hx).1
        exact h2.wf _ (by omega)
      have hA := cell_add (K := M ++ [Emp, q4B (q4 n (fL f) (w.getD 0 0) 0 4), ⟨true, .cells [.int .i64 (tot n w f 0)]⟩, ⟨true, .gints v .i64 (tab (v + 1) (tot n w f))⟩]) hscK (n := n) (c := (v + 1)) (F := fL f) (h1.wf (v + 1) (by omega))
      have hV := cell_val (K := M ++ [Emp, q4B (q4 n (fL f) (w.getD 0 0) 0 4), ⟨true, .cells [.int .i64 (tot n w f 0)]⟩, ⟨true, .gints v .i64 (tab (v + 1) (tot n w f))⟩]) hn hc (w := w) hf (h1.wf (v + 1) (by omega)) hF
      simp only [List.append_assoc, List.length_append] at hA
      simp only [List.append_assoc, List.length_append] at hV
      (conv => whnf); repeat ((first | refine SlI.at (h1.app _) (i := (v + 1)) (by omega) rfl ?_ | refine ⟨_, _, hA, ?_⟩); conv => whnf)
      refine loop_to (fun s => [.ptr (b + 1) 0, .sl j1 o1 w.length, .sl j2 o2 f.length, .any, .any, .any, .any, .any, .gs (M.length + 3) v 1 (v + 1), I ((v + 1) : Nat), .ptr (M.length + 4) 0, I s, .any, .any, .any, .any, .any, .any, .any, .any, .any, .any, .any, .any, .any, .any, .any, .any, .any, .any, .any, .any, .any, .any, .any, .any, .any, .any, .any, .any, .any, .any, .any, .any, .any, .any, .any, .any, .any, .any, .any, .any, .any, .any, .any, .any, .any, .any, .any, .any, .any, .any, .any, .any, .any, .any, .any, .any, .any, .any, .any, .any, .any, .any, .any, .any, .any, .any, .any, .any, .any, .any, .any, .any, .any, .any]) (fun s => M ++ ([Emp, q4B (q4 n (fL f) (w.getD 0 0) 0 4), ⟨true, .cells [.int .i64 (tot n w f 0)]⟩, ⟨true, .gints v .i64 (tab (v + 1) (tot n w f))⟩] ++ [q4B (q4 n (fL f) (w.getD (v + 1) 0) (v + 1) s)])) 0 4 (by decide) ?_ ?_ ?_
      · refine Fg.of [] ?_ (by first | (rw [List.append_nil]; done) | (rw [List.append_nil]; rfl)) (by simp) (by (simp [scL, V.sc]) <;> omega) (scM_app (scM_mono (by simp) _ hsc) rfl)
        conv => whnf
        first | exact ⟨rfl, rfl, rfl, rfl, rfl, rfl, rfl, rfl⟩ | (trace_state; sorry)
      · intro s _ hs
        have hr := cell_around (hN.more ([Emp, q4B (q4 n (fL f) (w.getD 0 0) 0 4), ⟨true, .cells [.int .i64 (tot n w f 0)]⟩, ⟨true, .gints v .i64 (tab (v + 1) (tot n w f))⟩] ++ [q4B (q4 n (fL f) (w.getD (v + 1) 0) (v + 1) s)])) hn hn' hc hs
        obtain ⟨_, x, hx, _⟩ := num_is hn hc hs
        have hx := (List.getElem?_eq_some_iff.1 hx).1
        cases hl : leftB n (v + 1) s
        · rw [hl] at hr
          have hB := cell_right (K := M ++ [Emp, q4B (q4 n (fL f) (w.getD 0 0) 0 4), ⟨true, .cells [.int .i64 (tot n w f 0)]⟩, ⟨true, .gints v .i64 (tab (v + 1) (tot n w f))⟩]) hscK (w := w.getD (v + 1) 0) (h1.wf (v + 1) (by omega)) hF hs hl rfl
          simp only [List.append_assoc, List.length_append] at hB
          (conv => whnf); repeat ((first | refine ⟨_, _, hr, ?_⟩ | refine SlI.at (h2.app _) (i := numE n (v + 1) s) (by omega) rfl ?_ | refine ⟨_, _, hB, ?_⟩ | refine br_d (by omega) ?_); conv => whnf)
          refine Fg.of [] ?_ (by first | (rw [List.append_nil]; done) | (rw [List.append_nil]; rfl)) (by simp) (by (simp [scL, V.sc]) <;> omega) (scM_app (scM_mono (by simp) _ hsc) rfl)
          conv => whnf
          first | exact ⟨rfl, rfl, rfl, rfl, rfl, rfl, wrapKL (by omega), rfl⟩ | (trace_state; sorry)
        · rw [hl] at hr
          have hB := cell_left (K := M ++ [Emp, q4B (q4 n (fL f) (w.getD 0 0) 0 4), ⟨true, .cells [.int .i64 (tot n w f 0)]⟩, ⟨true, .gints v .i64 (tab (v + 1) (tot n w f))⟩]) hscK (w := w.getD (v + 1) 0) (h1.wf (v + 1) (by omega)) hF hs hl rfl
          simp only [List.append_assoc, List.length_append] at hB
          (conv => whnf); repeat ((first | refine ⟨_, _, hr, ?_⟩ | refine SlI.at (h2.app _) (i := numE n (v + 1) s) (by omega) rfl ?_ | refine ⟨_, _, hB, ?_⟩ | refine br_d (by omega) ?_); conv => whnf)
          refine Fg.of [] ?_ (by first | (rw [List.append_nil]; done) | (rw [List.append_nil]; rfl)) (by simp) (by (simp [scL, V.sc]) <;> omega) (scM_app (scM_mono (by simp) _ hsc) rfl)
          conv => whnf
          first | exact ⟨rfl, rfl, rfl, rfl, rfl, rfl, wrapKL (by omega), rfl⟩ | (trace_state; sorry)
      · have hi : in64 (tot n w f (v + 1)) := ⟨by omega, hgc.2⟩
        rw [if_pos hi, decide_eq_true hi] at hV
        (conv => whnf); repeat ((first | refine ⟨_, _, hV, ?_⟩ | refine br_nd (by omega) ?_ | rw [getB_app] | refine addB_f5 ?_); conv => whnf)
        refine ⟨⟨rfl, rfl, (by show (tab (v + 1) (tot n w f)).length = (v + 1) * 1; rw [tab_len]; omega), (by show (v + 1 + 1) * 8 ≤ _; omega)⟩, ?_⟩
        (conv => whnf); repeat (refine setB_app ?_; conv => whnf)
        refine Fg.of [_, _] ?_ (by rw [List.append_assoc, show v + 1 + 1 - 1 = v + 1 from rfl, tab_succ (v + 1)]; rfl) (by simp) (by (simp [scL, V.sc]) <;> omega) (scM_app (scM_mono (by simp) _ hsc) rfl)
        conv => whnf
        exact ⟨rfl, rfl, rfl, rfl, wrapKL (by omega), rfl⟩
    · have hc : c0 < 6 * (n * n) := by omega
      obtain ⟨v, rfl⟩ : ∃ v, c0 = v + 1 := ⟨c0 - 1, by omega⟩
      clear hV hA hF hscK hg0 hi
      (conv => whnf); repeat ((first | refine br_d (by omega) ?_ | refine addB_f4 ?_); conv => whnf)
      have hscK : scM (M ++ [Emp, q4B (q4 n (fL f) (w.getD 0 0) 0 4), ⟨true, .cells [.int .i64 (tot n w f 0)]⟩, ⟨true, .gints v .i64 (tab (v + 1) (tot n w f))⟩]).length (M ++ [Emp, q4B (q4 n (fL f) (w.getD 0 0) 0 4), ⟨true, .cells [.int .i64 (tot n w f 0)]⟩, ⟨true, .gints v .i64 (tab (v + 1) (tot n w f))⟩]) = true := scM_app (scM_mono (by simp) _ hsc) rfl
      have hF : ∀ s, s < 4 → in64 (fL f (numE n (v + 1) s)) := fun s hs => by
        obtain ⟨_, x, hx, _⟩ := num_is hn hc hs
        have := (List.getElem?_eq_some_iff.1 hx).1
        exact h2.wf _ (by omega)
      have hA := cell_add (K := M ++ [Emp, q4B (q4 n (fL f) (w.getD 0 0) 0 4), ⟨true, .cells [.int .i64 (tot n w f 0)]⟩, ⟨true, .gints v .i64 (tab (v + 1) (tot n w f))⟩]) hscK (n := n) (c := (v + 1)) (F := fL f) (h1.wf (v + 1) (by omega))
      have hV := cell_val (K := M ++ [Emp, q4B (q4 n (fL f) (w.getD 0 0) 0 4), ⟨true, .cells [.int .i64 (tot n w f 0)]⟩, ⟨true, .gints v .i64 (tab (v + 1) (tot n w f))⟩]) hn hc (w := w) hf (h1.wf (v + 1) (by omega)) hF
      simp only [List.append_assoc, List.length_append] at hA
      simp only [List.append_assoc, List.length_append] at hV
      (conv => whnf); repeat ((first | refine SlI.at (h1.app _) (i := (v + 1)) (by omega) rfl ?_ | refine ⟨_, _, hA, ?_⟩); conv => whnf)
      refine loop_to (fun s => [.ptr (b + 1) 0, .sl j1 o1 w.length, .sl j2 o2 f.length, .any, .any, .any, .any, .any, .gs (M.length + 3) v 1 (v + 1), I ((v + 1) : Nat), .ptr (M.length + 4) 0, I s, .any, .any, .any, .any, .any, .any, .any, .any, .any, .any, .any, .any, .any, .any, .any, .any, .any, .any, .any, .any, .any, .any, .any, .any, .any, .any, .any, .any, .any, .any, .any, .any, .any, .any, .any, .any, .any, .any, .any, .any, .any, .any, .any, .any, .any, .any, .any, .any, .any, .any, .any, .any, .any, .any, .any, .any, .any, .any, .any, .any, .any, .any, .any, .any, .any, .any, .any, .any, .any, .any, .any, .any, .any, .any]) (fun s => M ++ ([Emp, q4B (q4 n (fL f) (w.getD 0 0) 0 4), ⟨true, .cells [.int .i64 (tot n w f 0)]⟩, ⟨true, .gints v .i64 (tab (v + 1) (tot n w f))⟩] ++ [q4B (q4 n (fL f) (w.getD (v + 1) 0) (v + 1) s)])) 0 4 (by decide) ?_ ?_ ?_
      · refine Fg.of [] ?_ (by first | (rw [List.append_nil]; done) | (rw [List.append_nil]; rfl)) (by simp) (by (simp [scL, V.sc]) <;> omega) (scM_app (scM_mono (by simp) _ hsc) rfl)
        conv => whnf
        first | exact ⟨rfl, rfl, rfl, rfl, rfl, rfl, rfl, rfl⟩ | (trace_state; sorry)
      · intro s _ hs
        have hr := cell_around (hN.more ([Emp, q4B (q4 n (fL f) (w.getD 0 0) 0 4), ⟨true, .cells [.int .i64 (tot n w f 0)]⟩, ⟨true, .gints v .i64 (tab (v + 1) (tot n w f))⟩] ++ [q4B (q4 n (fL f) (w.getD (v + 1) 0) (v + 1) s)])) hn hn' hc hs
        obtain ⟨_, x, hx, _⟩ := num_is hn hc hs
        have hx := (List.getElem?_eq_some_iff.1 hx).1
        cases hl : leftB n (v + 1) s
        · rw [hl] at hr
          have hB := cell_right (K := M ++ [Emp, q4B (q4 n (fL f) (w.getD 0 0) 0 4), ⟨true, .cells [.int .i64 (tot n w f 0)]⟩, ⟨true, .gints v .i64 (tab (v + 1) (tot n w f))⟩]) hscK (w := w.getD (v + 1) 0) (h1.wf (v + 1) (by omega)) hF hs hl rfl
          simp only [List.append_assoc, List.length_append] at hB
          (conv => whnf); repeat ((first | refine ⟨_, _, hr, ?_⟩ | refine SlI.at (h2.app _) (i := numE n (v + 1) s) (by omega) rfl ?_ | refine ⟨_, _, hB, ?_⟩ | refine br_d (by omega) ?_); conv => whnf)
          refine Fg.of [] ?_ (by first | (rw [List.append_nil]; done) | (rw [List.append_nil]; rfl)) (by simp) (by (simp [scL, V.sc]) <;> omega) (scM_app (scM_mono (by simp) _ hsc) rfl)
          conv => whnf
          first | exact ⟨rfl, rfl, rfl, rfl, rfl, rfl, wrapKL (by omega), rfl⟩ | (trace_state; sorry)
        · rw [hl] at hr
          have hB := cell_left (K := M ++ [Emp, q4B (q4 n (fL f) (w.getD 0 0) 0 4), ⟨true, .cells [.int .i64 (tot n w f 0)]⟩, ⟨true, .gints v .i64 (tab (v + 1) (tot n w f))⟩]) hscK (w := w.getD (v + 1) 0) (h1.wf (v + 1) (by omega)) hF hs hl rfl
          simp only [List.append_assoc, List.length_append] at hB
          (conv => whnf); repeat ((first | refine ⟨_, _, hr, ?_⟩ | refine SlI.at (h2.app _) (i := numE n (v + 1) s) (by omega) rfl ?_ | refine ⟨_, _, hB, ?_⟩ | refine br_d (by omega) ?_); conv => whnf)
          refine Fg.of [] ?_ (by first | (rw [List.append_nil]; done) | (rw [List.append_nil]; rfl)) (by simp) (by (simp [scL, V.sc]) <;> omega) (scM_app (scM_mono (by simp) _ hsc) rfl)
          conv => whnf
          first | exact ⟨rfl, rfl, rfl, rfl, rfl, rfl, wrapKL (by omega), rfl⟩ | (trace_state; sorry)
      · by_cases hi : in64 (tot n w f (v + 1))
        · rw [if_pos hi, decide_eq_true hi] at hV
          (conv => whnf); repeat ((first | refine ⟨_, _, hV, ?_⟩ | refine br_d (by omega) ?_); conv => whnf)
          exact ⟨rfl, _, rfl⟩
        · rw [if_neg hi, decide_eq_false hi] at hV
          (conv => whnf); repeat (refine ⟨_, _, hV, ?_⟩; conv => whnf)
          exact ⟨rfl, _, rfl⟩
end
def mvS (L : Nat) (w i : Nat) : Option Nat := if i = L + 3 then some (w - 1) else none
theorem rmove_up {M : List Blk} {b n j1 o1 j2 o2 : Nat} {w f : List Int} (hsc : scM M.length M = true) (hN : RNet M b n) (hn : 1 ≤ n) (hn' : n ≤ 32) (h1 : SlI M j1 o1 w) (h2 : SlI M j2 o2 f) (hw : w.length = 6 * (n * n)) (hf : f.length = (edges n).length)
    (hg : ∀ c, c < w.length → 0 ≤ tot n w f c ∧ tot n w f c < 9223372036854775808) :
    ∃ M', COk Tryz.prog 3 37 [.ptr (b + 1) 0, .sl j1 o1 w.length, .sl j2 o2 f.length] M (.tup [.sl (M.length + 3) 0 w.length, I 0]) M' ∧ Up M M' ∧ SlI M' (M.length + 3) 0 (tab w.length (tot n w f)) := by
  have h := rmove_ok hsc hN hn hn' h1 h2 hw hf hg
  have at3 : mvS M.length w.length (M.length + 3) = some (w.length - 1) := if_pos rfl
  have h9 := COk.settle (N' := [⟨false, .dead⟩, ⟨false, .dead⟩, ⟨false, .dead⟩, ⟨true, .ints .i64 (tab w.length (tot n w f))⟩]) (mvS M.length w.length) h ?_ ?_ ?_ ?_
  · refine ⟨M ++ [⟨false, .dead⟩, ⟨false, .dead⟩, ⟨false, .dead⟩, ⟨true, .ints .i64 (tab w.length (tot n w f))⟩], ?_, Up.of hsc rfl, SlI.tab (getB_app 3) (fun i hi => ?_) h1.short⟩
    · have e : (V.tup [.gs (M.length + 3) (w.length - 1) 1 w.length, I 0]).stl (mvS M.length w.length) = .tup [.sl (M.length + 3) 0 w.length, I 0] := by
        show V.tup [V.stl _ (.gs (M.length + 3) (w.length - 1) 1 w.length), I 0] = _
        simp only [V.stl, at3]
      rw [e] at h9
      exact h9
    · have := hg i hi
      exact ⟨by omega, this.2⟩
  · intro i hi
    exact if_neg (by omega)
  · intro i hi
    have hi : M.length + 4 ≤ i := hi
    exact if_neg (by omega)
  · refine ⟨?_, trivial, trivial⟩
    intro u hu
    exact (Option.some.inj (at3.symm.trans hu)).symm
  · have ne : ∀ k, k < 3 → mvS M.length w.length (M.length + k) = none := fun k hk => if_neg (by omega)
    exact ⟨.gone (.inl (ne 0 (by decide))) (.inl rfl), .gone (.inl (ne 1 (by decide))) (.inl rfl), .gone (.inl (ne 2 (by decide))) (.inl rfl), .ints at3 (fun _ => rfl), trivial⟩
theorem RNet.up {M M' : List Blk} {b n : Nat} (h : RNet M b n) (u : Up M M') : RNet M' b n := by
  obtain ⟨x, rfl⟩ := u.ex; exact h.more x
theorem same15_r {M : List Blk} (hng : 3 ≤ M.length) (hsc : scM M.length M = true) {va vb : V} {a : List Int} (ha : Sli M va a) (hb : Sli M vb a) : COk Tryz.prog 3 38 [va, vb] M (Bo true) M := by
  have := same15_ok hng hsc ha hb
  rwa [decide_eq_true rfl] at this
set_option maxHeartbeats 0 in
theorem exact15_ok {M : List Blk} (hm : Top M) (hsc : scM M.length M = true) (side : Int) {v1 v2 : V} {w f : List Int} (h1 : Sli M v1 w) (h2 : Sli M v2 f) : COk Tryz.prog 3 5 [I side, v1, v2] M (Bo true) M := by
  have aw := awake15_ok hm hsc
  have hng := hm.ng
  have hnil : Sli M nilS' [] := .inl ⟨rfl, rfl⟩
  by_cases hs : 1 ≤ side ∧ side ≤ 32
  · obtain ⟨n, rfl⟩ : ∃ n : Nat, side = n := ⟨side.toNat, by omega⟩
    obtain ⟨b, M1, hnew, N, u1⟩ := new_up hm hsc n (by omega) (by omega)
    have hm1 := hm.up u1
    obtain ⟨b', M2, hrnew, R, u2⟩ := rnew_up hm1 u1.sc n (by omega) (by omega)
    have hm2 := hm1.up u2
    have hs2 := u2.sc
    have N := N.up u2
    have k1 := (h1.up u1).up u2
    have k2 := (h2.up u1).up u2
    have hnl := rmove_nil h1 h2
    have hx2 : ∃ y, M2 = M ++ y := by
      obtain ⟨y, rfl⟩ := u1.ex
      obtain ⟨z, rfl⟩ := u2.ex
      exact ⟨y ++ z, by rw [List.append_assoc]⟩
    by_cases hl : w.length ≠ 6 * (n * n) ∨ f.length ≠ (edges n).length
    · have hmv := move_arg N k1 k2 hl
      have hrmv := rmove_arg R (by omega) (by omega) k1 k2 hl
      have hsame := same15_r (va := nilS') (vb := nilS') (a := []) hm2.ng hs2 (.inl ⟨rfl, rfl⟩) (.inl ⟨rfl, rfl⟩)
      rcases h1 with ⟨rfl, rfl⟩ | ⟨j1, o1, rfl, h1⟩ <;> rcases h2 with ⟨rfl, rfl⟩ | ⟨j2, o2, rfl, h2⟩
      all_goals
        refine COk_quiet Tryz.f5 Tryz.func5 (by kernel_rfl) rfl ?_
        (conv => whnf); repeat ((first | refine ⟨_, _, aw, ?_⟩ | refine ⟨_, _, hnl, ?_⟩ | refine ⟨_, _, hnew, ?_⟩ | refine ⟨_, _, hrnew, ?_⟩ | refine ⟨_, _, hmv, ?_⟩ | refine ⟨_, _, hrmv, ?_⟩ | refine ⟨_, _, hsame, ?_⟩); conv => whnf)
        exact ⟨rfl, hx2⟩
    · have hn1 : 1 ≤ n := by omega
      have hn2 : n ≤ 32 := by omega
      have hw : w.length = 6 * (n * n) := by omega
      have hf : f.length = (edges n).length := by omega
      have hpos := Nat.mul_pos hn1 hn1
      have hel := edges_len hn1
      rcases h1 with ⟨rfl, rfl⟩ | ⟨j1, o1, rfl, h1⟩
      · simp at hw; omega
      rcases h2 with ⟨rfl, rfl⟩ | ⟨j2, o2, rfl, h2⟩
      · simp at hf; omega
      have S1 := (h1.up u1).up u2
      have S2 := (h2.up u1).up u2
      by_cases hg : ∀ c, c < w.length → 0 ≤ tot n w f c ∧ tot n w f c < 9223372036854775808
      · obtain ⟨M3, hmv, u3, T1⟩ := move_up hm2.ng hs2 N hn1 hn2 S1 S2 hw hf hg
        obtain ⟨M4, hrmv, u4, T2⟩ := rmove_up u3.sc (R.up u3) hn1 hn2 (S1.up u3) (S2.up u3) hw hf hg
        have hm4 := (hm2.up u3).up u4
        have hl9 : (tab w.length (tot n w f)).length = w.length := tab_len _ _
        have hA := Sli.of (T1.up u4)
        have hB := Sli.of T2
        rw [hl9] at hA hB
        have hsame := same15_r hm4.ng u4.sc hA hB
        have hx4 : ∃ y, M4 = M ++ y := by
          obtain ⟨y, rfl⟩ := hx2
          obtain ⟨z, rfl⟩ := u3.ex
          obtain ⟨x, rfl⟩ := u4.ex
          exact ⟨y ++ z ++ x, by simp only [List.append_assoc]⟩
        refine COk_quiet Tryz.f5 Tryz.func5 (by kernel_rfl) rfl ?_
        (conv => whnf); repeat ((first | refine ⟨_, _, aw, ?_⟩ | refine ⟨_, _, hnl, ?_⟩ | refine ⟨_, _, hnew, ?_⟩ | refine ⟨_, _, hrnew, ?_⟩ | refine ⟨_, _, hmv, ?_⟩ | refine ⟨_, _, hrmv, ?_⟩ | refine ⟨_, _, hsame, ?_⟩); conv => whnf)
        exact ⟨rfl, hx4⟩
      · obtain ⟨c0, hc0, hbelow, hbad⟩ := first_bad hg
        have hmv := move_not hm2.ng hs2 N hn1 hn2 S1 S2 hw hf hc0 (fun c hc => hbelow c hc) hbad
        have hrmv := rmove_not hs2 R hn1 hn2 S1 S2 hw hf hc0 (fun c hc => hbelow c hc) hbad
        have hsame := same15_r (va := nilS') (vb := nilS') (a := []) hm2.ng hs2 (.inl ⟨rfl, rfl⟩) (.inl ⟨rfl, rfl⟩)
        refine COk_quiet Tryz.f5 Tryz.func5 (by kernel_rfl) rfl ?_
        (conv => whnf); repeat ((first | refine ⟨_, _, aw, ?_⟩ | refine ⟨_, _, hnl, ?_⟩ | refine ⟨_, _, hnew, ?_⟩ | refine ⟨_, _, hrnew, ?_⟩ | refine ⟨_, _, hmv, ?_⟩ | refine ⟨_, _, hrmv, ?_⟩ | refine ⟨_, _, hsame, ?_⟩); conv => whnf)
        exact ⟨rfl, hx2⟩
  · have hnew := new_no side hs M
    have hrnew := rnew_no side hs M
    have hnl := rmove_nil h1 h2
    have hrmv := rrmove_nil h1 h2
    have hsame := same15_r (va := nilS') (vb := nilS') (a := []) hng hsc hnil hnil
    rcases h1 with ⟨rfl, rfl⟩ | ⟨j1, o1, rfl, h1⟩ <;> rcases h2 with ⟨rfl, rfl⟩ | ⟨j2, o2, rfl, h2⟩
    all_goals
      refine COk_quiet Tryz.f5 Tryz.func5 (by kernel_rfl) rfl ?_
      (conv => whnf); repeat ((first | refine ⟨_, _, aw, ?_⟩ | refine ⟨_, _, hnl, ?_⟩ | refine ⟨_, _, hnew, ?_⟩ | refine ⟨_, _, hrnew, ?_⟩ | refine ⟨_, _, hrmv, ?_⟩ | refine ⟨_, _, hsame, ?_⟩); conv => whnf)
      exact ⟨rfl, [], by simp⟩
end Go.Proofs.YthoofdnnfahhaaaGreatDoor
