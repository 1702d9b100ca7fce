/- The reference's limiters, depths, levels, the lesser and the greater of two. No condition. -/
import Derived.Test.YthoofdnnfahhaaaGreatDoorR9
import Derived.Test.YthoofdnnfahhaaaGreatDoorR8
import Derived.Test.YthoofdnnfahhaaaGreatDoorRc
namespace Go.Proofs.YthoofdnnfahhaaaGreatDoor
open Go Go.Eng Ieee
set_option maxRecDepth 100000
set_option linter.unusedSimpArgs false
set_option linter.unusedVariables false

theorem rclass_ok {o : Option Nat} (m : List Blk) : COk Tryz.prog 3 192 [.fl o] m (I (match o with | none => 4 | some b => classR b)) m := by
  cases o with
  | some b => exact rclass_w b m
  | none =>
    refine COk_bits [] (bs := []) (fun b hn => ?_)
    have h := rclass_w b m
    have hi := infR_eq
    obtain ⟨h1, h2⟩ := hn
    have e3 : f64.signWeight = 2 ^ 63 := by decide
    have h2 : f64.infRung < b % f64.signWeight := h2
    have e4 : f64.infRung = infR := rfl
    rw [e3, e4] at h2
    have e : classR b = 4 := by
      unfold classR
      rw [if_neg (by omega), if_neg (by omega), if_neg (by omega), if_neg (by omega)]
    rwa [e] at h
theorem rvalid_ok (kind : Int) (m : List Blk) : COk Tryz.prog 3 139 [I kind] m (Bo (decide (0 ≤ kind ∧ kind ≤ 3))) m := by
  by_cases h : 0 ≤ kind
  · have e : decide (0 ≤ kind ∧ kind ≤ 3) = decide (kind ≤ 3) := decide_eq_decide.2 ⟨fun k => k.2, fun k => ⟨h, k⟩⟩
    rw [e]
    refine COk_quiet Tryz.f139 Tryz.func139 (by kernel_rfl) rfl ?_
    (conv => whnf); repeat (refine br_d (by omega) ?_; conv => whnf)
    exact ⟨rfl, [], by simp⟩
  · rw [decide_eq_false (fun k => h k.1)]
    refine COk_quiet Tryz.f139 Tryz.func139 (by kernel_rfl) rfl ?_
    (conv => whnf); repeat (refine br_nd (by omega) ?_; conv => whnf)
    exact ⟨rfl, [], by simp⟩
theorem rlesser_ok (x y : Option Nat) (m : List Blk) : COk Tryz.prog 3 215 [.fl x, .fl y] m (.fl (lessO x y)) m := by
  by_cases h : flt y x = true
  · rw [lessO, if_pos h]
    refine COk_quiet Tryz.f215 Tryz.func215 (by kernel_rfl) rfl ?_
    (conv => whnf); repeat (refine br_yes h ?_; conv => whnf)
    exact ⟨rfl, [], by simp⟩
  · rw [lessO, if_neg h]
    refine COk_quiet Tryz.f215 Tryz.func215 (by kernel_rfl) rfl ?_
    (conv => whnf); repeat (refine br_no (Bool.eq_false_iff.2 h) ?_; conv => whnf)
    exact ⟨rfl, [], by simp⟩
theorem rgreater_ok (x y : Option Nat) (m : List Blk) : COk Tryz.prog 3 216 [.fl x, .fl y] m (.fl (moreO x y)) m := by
  by_cases h : fgt y x = true
  · rw [moreO, if_pos h]
    refine COk_quiet Tryz.f216 Tryz.func216 (by kernel_rfl) rfl ?_
    (conv => whnf); repeat (refine br_yes h ?_; conv => whnf)
    exact ⟨rfl, [], by simp⟩
  · rw [moreO, if_neg h]
    refine COk_quiet Tryz.f216 Tryz.func216 (by kernel_rfl) rfl ?_
    (conv => whnf); repeat (refine br_no (Bool.eq_false_iff.2 h) ?_; conv => whnf)
    exact ⟨rfl, [], by simp⟩
/-- The third limiter by the class of what it makes. -/
def classO (o : Option Nat) : Int := match o with | none => 4 | some b => classR b
def leerR (o : Option Nat) : Option Nat := if classO o ≥ 3 then some 0 else o
theorem rclass_O (o : Option Nat) (m : List Blk) : COk Tryz.prog 3 192 [.fl o] m (I (classO o)) m := rclass_ok m
theorem leer_is {x y : Option Nat} : limO 3 x y = leerR (leerF x y) := by
  have hi := infR_eq
  have hw : Wd (leerF x y) := fdiv_lt _ _
  have e : limO 3 x y = if fne (leerF x y) (leerF x y) = true then some 0 else if fgt (absO (leerF x y)) (some maxW) = true then some 0 else leerF x y := rfl
  rw [e]
  generalize leerF x y = o at *
  unfold leerR
  cases o with
  | none => rfl
  | some b =>
    have hb := hw b rfl
    rcases nan_or hb with hn | ⟨s, R, hR, rfl⟩
    · have e1 : fne (some b) (some b) = true := fne_nan hn
      have h2 := nanB_mag hn
      have e : classR b = 4 := by
        unfold classR
        rw [if_neg (by omega), if_neg (by omega), if_neg (by omega), if_neg (by omega)]
      rw [if_pos e1, if_pos (show classO (some b) ≥ 3 by show classR b ≥ 3; omega)]
    · have hm := mag_wd s hR
      have e1 : fne (some (wd s R)) (some (wd s R)) = false := by rw [none_is hb, hm]; exact decide_eq_false (by omega)
      have e2 : absO (some (wd s R)) = some R := by
        show some (absB (wd s R)) = _
        rw [absB_mod hb, hm]
      rw [e1, if_neg (by decide), e2, fgt_w hR (by rw [hi]; decide)]
      by_cases h : maxW < R
      · rw [if_pos (decide_eq_true h), if_pos]
        show classR (wd s R) ≥ 3
        unfold classR; rw [hm]
        have hmx : maxW = 9218868437227405311 := rfl
        rw [if_neg (by omega), if_neg (by omega), if_neg (by omega)]
        split <;> decide
      · rw [if_neg (by rw [decide_eq_false h]; decide), if_neg]
        show ¬ classR (wd s R) ≥ 3
        unfold classR; rw [hm]
        have hmx : maxW = 9218868437227405311 := rfl
        split
        · decide
        · split
          · decide
          · rw [if_pos (by omega)]; decide
theorem rabove_ok (kind : Int) {R Q : Nat} (hR : R ≤ infR) (hQ : Q ≤ infR) (m : List Blk) : COk Tryz.prog 3 183 [I kind, F R, F Q] m (.fl (if 0 ≤ kind ∧ kind ≤ 3 then limO kind (some R) (some Q) else some 0)) m := by
  by_cases h1 : kind = 1
  · subst h1
    rw [if_pos (by decide), lim1_pos hR hQ]
    refine COk_quiet Tryz.f183 Tryz.func183 (by kernel_rfl) rfl ?_
    (conv => whnf); repeat (refine ⟨_, _, rlesser_ok _ _ _, ?_⟩; conv => whnf)
    exact ⟨rfl, [], by simp⟩
  by_cases h2 : kind = 2
  · subst h2
    rw [if_pos (by decide), lim2_pos hR hQ]
    refine COk_quiet Tryz.f183 Tryz.func183 (by kernel_rfl) rfl ?_
    (conv => whnf); repeat ((first | refine ⟨_, _, rlesser_ok _ _ _, ?_⟩ | refine ⟨_, _, rgreater_ok _ _ _, ?_⟩); conv => whnf)
    exact ⟨rfl, [], by simp⟩
  by_cases h3 : kind = 3
  · subst h3
    rw [if_pos (by decide), leer_is]
    unfold leerR
    refine COk_quiet Tryz.f183 Tryz.func183 (by kernel_rfl) rfl ?_
    (conv => whnf); repeat (refine ⟨_, _, rclass_O _ _, ?_⟩; conv => whnf)
    refine br_intro (fun h => ?_) (fun h => ?_)
    · (conv => whnf)
      exact ⟨congrArg V.fl (if_pos (of_decide_eq_true h)).symm, [], by simp⟩
    · (conv => whnf)
      exact ⟨congrArg V.fl (if_neg (of_decide_eq_false h)).symm, [], by simp⟩
  · have e : (if 0 ≤ kind ∧ kind ≤ 3 then limO kind (some R) (some Q) else some 0) = some 0 := by
      by_cases hk : 0 ≤ kind ∧ kind ≤ 3
      · have h0 : kind = 0 := by omega
        rw [if_pos hk, h0]; rfl
      · exact if_neg hk
    rw [e]
    refine COk_quiet Tryz.f183 Tryz.func183 (by kernel_rfl) rfl ?_
    (conv => whnf); repeat (refine br_nd (by omega) ?_; conv => whnf)
    exact ⟨rfl, [], by simp⟩
theorem fgt_pos {o : Option Nat} (hw : Wd o) (h : fgt o (some 0) = true) : ∃ R, R ≤ infR ∧ o = some R := by
  have hi := infR_eq
  cases o with
  | none => exact absurd h (by decide)
  | some b =>
    rcases nan_or (hw b rfl) with hn | ⟨s, R, hR, rfl⟩
    · unfold fgt at h; rw [(nan_cmp hn _).1] at h; exact absurd h (by decide)
    · cases s
      · exact ⟨R, hR, by rw [wd_false]⟩
      · exfalso
        have e : fgt (some (wd true R)) (some 0) = decide (rk false 0 < rk true R) := fgt_rk (s := true) (t := false) hR (Nat.zero_le _)
        rw [e] at h
        have h := of_decide_eq_true h
        unfold rk at h
        simp only [Bool.false_eq_true, if_false, if_true] at h
        omega
theorem flt_neg {o : Option Nat} (hw : Wd o) (h : flt o (some 0) = true) : ∃ R, R ≤ infR ∧ fneg o = some R := by
  have hi := infR_eq
  cases o with
  | none => exact absurd h (by decide)
  | some b =>
    rcases nan_or (hw b rfl) with hn | ⟨s, R, hR, rfl⟩
    · unfold flt at h; rw [(nan_cmp hn _).1] at h; exact absurd h (by decide)
    · cases s
      · exfalso
        have e : flt (some (wd false R)) (some 0) = decide (rk false R < rk false 0) := flt_rk (s := false) (t := false) hR (Nat.zero_le _)
        rw [e] at h
        have h := of_decide_eq_true h
        unfold rk at h
        simp only [Bool.false_eq_true, if_false] at h
        omega
      · refine ⟨R, hR, ?_⟩
        show some (Op.negFloat .f64 (wd true R)) = some R
        rw [neg_wd true (by omega), Bool.not_true, wd_false]
theorem minO_wd {x y : Option Nat} (hx : Wd x) (hy : Wd y) : Wd (some (minO x y)) := by
  refine wdF ?_
  have hq : qn < 18446744073709551616 := by decide
  cases x with
  | none => cases y <;> exact hq
  | some a => cases y with
    | none => exact hq
    | some b =>
      have h1 := hx a rfl
      have h2 := hy b rfl
      unfold minO
      simp only
      split
      · exact hq
      · split <;> omega
theorem maxO_wd {x y : Option Nat} (hx : Wd x) (hy : Wd y) : Wd (some (maxO x y)) := by
  refine wdF ?_
  have hq : qn < 18446744073709551616 := by decide
  cases x with
  | none => cases y <;> exact hq
  | some a => cases y with
    | none => exact hq
    | some b =>
      have h1 := hx a rfl
      have h2 := hy b rfl
      unfold maxO
      simp only
      split
      · exact hq
      · split <;> omega
theorem canon_0n : canonF (fneg (some 0)) = 0 := by decide +kernel
theorem lim_wd {kind : Int} {x y : Option Nat} (hx : Wd x) (hy : Wd y) : Wd (limO kind x y) := by
  have h0 : Wd (some 0) := wdF (by decide)
  unfold limO
  split
  · exact h0
  · split
    · exact minO_wd hx hy
    · split
      · exact maxO_wd (minO_wd (fmul_lt' _ _) hy) (minO_wd hx (fmul_lt' _ _))
      · split
        · exact h0
        · split
          · exact h0
          · exact fdiv_lt _ _
theorem limI_wd {kind : Int} {x y : Option Nat} (hx : Wd x) (hy : Wd y) : Wd (if 0 ≤ kind ∧ kind ≤ 3 then limO kind x y else some 0) := by
  split
  · exact lim_wd hx hy
  · exact wdF (by decide)
theorem rabove_p (kind : Int) {x y : Option Nat} (hx : ∃ R, R ≤ infR ∧ x = some R) (hy : ∃ R, R ≤ infR ∧ y = some R) (m : List Blk) : COk Tryz.prog 3 183 [I kind, .fl x, .fl y] m (.fl (if 0 ≤ kind ∧ kind ≤ 3 then limO kind x y else some 0)) m := by
  obtain ⟨R, hR, rfl⟩ := hx
  obtain ⟨Q, hQ, rfl⟩ := hy
  exact rabove_ok kind hR hQ m
theorem rslope_ok (kind : Int) {x y : Option Nat} (hx : Wd x) (hy : Wd y) (m : List Blk) : COk Tryz.prog 3 116 [I kind, .fl x, .fl y] m (F (slopeF kind x y)) m := by
  refine COk_quiet Tryz.f116 Tryz.func116 (by kernel_rfl) rfl ?_
  conv => whnf
  refine br_intro (fun h1 => ?_) (fun h1 => ?_)
  · conv => whnf
    refine br_intro (fun h2 => ?_) (fun h2 => ?_)
    · have ha := rabove_p kind (fgt_pos hx h1) (fgt_pos hy h2)
      (conv => whnf); repeat ((first | refine ⟨_, _, ha _, ?_⟩ | refine ⟨_, _, rcanon_ok (limI_wd hx hy) _, ?_⟩); conv => whnf)
      refine ⟨congrArg (fun z => F z) ?_, [], by simp⟩
      unfold slopeF
      by_cases hk : 0 ≤ kind ∧ kind ≤ 3
      · rw [if_pos hk, if_pos hk, if_pos ⟨h1, h2⟩]
      · rw [if_neg hk, if_neg hk]; exact canon_0
    · have hn : ¬ (fgt x (some 0) = true ∧ fgt y (some 0) = true) := fun h => by rw [h2] at h; exact absurd h.2 (by decide)
      (conv => whnf)
      refine br_intro (fun g1 => ?_) (fun g1 => ?_)
      · (conv => whnf)
        refine br_intro (fun g2 => ?_) (fun g2 => ?_)
        · have ha := rabove_p kind (flt_neg hx g1) (flt_neg hy g2)
          (conv => whnf); repeat ((first | refine ⟨_, _, ha _, ?_⟩ | refine ⟨_, _, rcanon_ok (fneg_lt (limI_wd (fneg_lt hx) (fneg_lt hy))) _, ?_⟩); conv => whnf)
          refine ⟨congrArg (fun z => F z) ?_, [], by simp⟩
          unfold slopeF
          by_cases hk : 0 ≤ kind ∧ kind ≤ 3
          · rw [if_pos hk, if_pos hk, if_neg hn, if_pos ⟨g1, g2⟩]
          · rw [if_neg hk, if_neg hk]; exact canon_0n
        · (conv => whnf)
          refine ⟨congrArg (fun z => F z) ?_, [], by simp⟩
          unfold slopeF
          by_cases hk : 0 ≤ kind ∧ kind ≤ 3
          · rw [if_pos hk, if_neg hn, if_neg (fun h => by rw [g2] at h; exact absurd h.2 (by decide))]
          · rw [if_neg hk]
      · (conv => whnf)
        refine ⟨congrArg (fun z => F z) ?_, [], by simp⟩
        unfold slopeF
        by_cases hk : 0 ≤ kind ∧ kind ≤ 3
        · rw [if_pos hk, if_neg hn, if_neg (fun h => by rw [g1] at h; exact absurd h.1 (by decide))]
        · rw [if_neg hk]
  · have hn : ¬ (fgt x (some 0) = true ∧ fgt y (some 0) = true) := fun h => by rw [h1] at h; exact absurd h.1 (by decide)
    (conv => whnf)
    refine br_intro (fun g1 => ?_) (fun g1 => ?_)
    · (conv => whnf)
      refine br_intro (fun g2 => ?_) (fun g2 => ?_)
      · have ha := rabove_p kind (flt_neg hx g1) (flt_neg hy g2)
        (conv => whnf); repeat ((first | refine ⟨_, _, ha _, ?_⟩ | refine ⟨_, _, rcanon_ok (fneg_lt (limI_wd (fneg_lt hx) (fneg_lt hy))) _, ?_⟩); conv => whnf)
        refine ⟨congrArg (fun z => F z) ?_, [], by simp⟩
        unfold slopeF
        by_cases hk : 0 ≤ kind ∧ kind ≤ 3
        · rw [if_pos hk, if_pos hk, if_neg hn, if_pos ⟨g1, g2⟩]
        · rw [if_neg hk, if_neg hk]; exact canon_0n
      · (conv => whnf)
        refine ⟨congrArg (fun z => F z) ?_, [], by simp⟩
        unfold slopeF
        by_cases hk : 0 ≤ kind ∧ kind ≤ 3
        · rw [if_pos hk, if_neg hn, if_neg (fun h => by rw [g2] at h; exact absurd h.2 (by decide))]
        · rw [if_neg hk]
    · (conv => whnf)
      refine ⟨congrArg (fun z => F z) ?_, [], by simp⟩
      unfold slopeF
      by_cases hk : 0 ≤ kind ∧ kind ≤ 3
      · rw [if_pos hk, if_neg hn, if_neg (fun h => by rw [g1] at h; exact absurd h.1 (by decide))]
      · rw [if_neg hk]
/-! ### Depths and levels -/
theorem rdepth_ok (w a : Int) (hw : in64 w) (ha : in64 a) (m : List Blk) : COk Tryz.prog 3 115 [I w, I a] m (.fl (depthF w a)) m := by
  have h1 := rfromint_ok w hw
  have h2 := rfromint_ok a ha
  unfold depthF
  by_cases hc : w < 1
  · rw [if_pos (.inl hc)]
    refine COk_quiet Tryz.f115 Tryz.func115 (by kernel_rfl) rfl ?_
    (conv => whnf); repeat (refine br_d (by omega) ?_; conv => whnf)
    exact ⟨rfl, [], by simp⟩
  by_cases hd : a < 1
  · rw [if_pos (.inr hd)]
    refine COk_quiet Tryz.f115 Tryz.func115 (by kernel_rfl) rfl ?_
    (conv => whnf); repeat ((first | refine br_d (by omega) ?_ | refine br_nd (by omega) ?_); conv => whnf)
    exact ⟨rfl, [], by simp⟩
  rw [if_neg (by omega)]
  refine COk_quiet Tryz.f115 Tryz.func115 (by kernel_rfl) rfl ?_
  (conv => whnf); repeat ((first | refine ⟨_, _, h1 _, ?_⟩ | refine ⟨_, _, h2 _, ?_⟩ | refine br_nd (by omega) ?_); conv => whnf)
  exact ⟨rfl, [], by simp⟩
theorem depth_wd (w a : Int) : Wd (depthF w a) := by
  unfold depthF
  split
  · exact wdF (by decide)
  · exact fdiv_lt _ _
theorem rlevel_ok (b : Nat) (w a : Int) (hw : in64 w) (ha : in64 a) (m : List Blk) : COk Tryz.prog 3 117 [F b, I w, I a] m (F (levelF b w a)) m := by
  refine COk_quiet Tryz.f117 Tryz.func117 (by kernel_rfl) rfl ?_
  (conv => whnf); repeat ((first | refine ⟨_, _, rdepth_ok w a hw ha _, ?_⟩ | refine ⟨_, _, rcanon_ok (fadd_lt _ _) _, ?_⟩); conv => whnf)
  exact ⟨rfl, [], by simp⟩
theorem rmin_ok {x y : Option Nat} (hx : Wd x) (hy : Wd y) (m : List Blk) : COk Tryz.prog 3 119 [.fl x, .fl y] m (F (minO x y)) m := by
  refine COk_bits [] (bs := [.fl y]) fun a ha => COk_bits [F a] (bs := []) fun b hb => ?_
  have a1 := fden_lt hx ha
  have b1 := fden_lt hy hb
  have e : minO x y = if fne (some a) (some a) = true ∨ fne (some b) (some b) = true then qn else if orderW a b > 0 then b else a := by
    cases x with
    | none =>
      rw [if_pos (.inl (fne_nan ha))]
      cases y <;> rfl
    | some x' =>
      obtain rfl : a = x' := ha
      cases y with
      | none => rw [if_pos (.inr (fne_nan hb))]; rfl
      | some y' =>
        obtain rfl : b = y' := hb
        rfl
  rw [e, orderR_is a1 b1]
  refine COk_quiet Tryz.f119 Tryz.func119 (by kernel_rfl) rfl ?_
  (conv => whnf); repeat (refine ⟨_, _, rnone_w a1 _, ?_⟩; conv => whnf)
  refine br_intro (fun h => ?_) (fun h => ?_)
  · rw [if_pos (.inl h)]
    (conv => whnf); repeat (refine ⟨_, _, rquiet_ok _, ?_⟩; conv => whnf)
    exact ⟨rfl, [], by simp⟩
  (conv => whnf); repeat (refine ⟨_, _, rnone_w b1 _, ?_⟩; conv => whnf)
  refine br_intro (fun h' => ?_) (fun h' => ?_)
  · rw [if_pos (.inr h')]
    (conv => whnf); repeat (refine ⟨_, _, rquiet_ok _, ?_⟩; conv => whnf)
    exact ⟨rfl, [], by simp⟩
  rw [if_neg (fun k => by rw [h, h'] at k; rcases k with k | k <;> exact absurd k (by decide))]
  (conv => whnf); repeat (refine ⟨_, _, rorder_ok _ _ _, ?_⟩; conv => whnf)
  refine br_di (fun k => ?_) (fun k => ?_)
  · rw [if_neg (by omega)]
    (conv => whnf)
    exact ⟨rfl, [], by simp⟩
  · rw [if_pos (by omega)]
    (conv => whnf)
    exact ⟨rfl, [], by simp⟩
theorem rmax_ok {x y : Option Nat} (hx : Wd x) (hy : Wd y) (m : List Blk) : COk Tryz.prog 3 118 [.fl x, .fl y] m (F (maxO x y)) m := by
  refine COk_bits [] (bs := [.fl y]) fun a ha => COk_bits [F a] (bs := []) fun b hb => ?_
  have a1 := fden_lt hx ha
  have b1 := fden_lt hy hb
  have e : maxO x y = if fne (some a) (some a) = true ∨ fne (some b) (some b) = true then qn else if orderW a b < 0 then b else a := by
    cases x with
    | none =>
      rw [if_pos (.inl (fne_nan ha))]
      cases y <;> rfl
    | some x' =>
      obtain rfl : a = x' := ha
      cases y with
      | none => rw [if_pos (.inr (fne_nan hb))]; rfl
      | some y' =>
        obtain rfl : b = y' := hb
        rfl
  rw [e, orderR_is a1 b1]
  refine COk_quiet Tryz.f118 Tryz.func118 (by kernel_rfl) rfl ?_
  (conv => whnf); repeat (refine ⟨_, _, rnone_w a1 _, ?_⟩; conv => whnf)
  refine br_intro (fun h => ?_) (fun h => ?_)
  · rw [if_pos (.inl h)]
    (conv => whnf); repeat (refine ⟨_, _, rquiet_ok _, ?_⟩; conv => whnf)
    exact ⟨rfl, [], by simp⟩
  (conv => whnf); repeat (refine ⟨_, _, rnone_w b1 _, ?_⟩; conv => whnf)
  refine br_intro (fun h' => ?_) (fun h' => ?_)
  · rw [if_pos (.inr h')]
    (conv => whnf); repeat (refine ⟨_, _, rquiet_ok _, ?_⟩; conv => whnf)
    exact ⟨rfl, [], by simp⟩
  rw [if_neg (fun k => by rw [h, h'] at k; rcases k with k | k <;> exact absurd k (by decide))]
  (conv => whnf); repeat (refine ⟨_, _, rorder_ok _ _ _, ?_⟩; conv => whnf)
  refine br_di (fun k => ?_) (fun k => ?_)
  · rw [if_neg (by omega)]
    (conv => whnf)
    exact ⟨rfl, [], by simp⟩
  · rw [if_pos (by omega)]
    (conv => whnf)
    exact ⟨rfl, [], by simp⟩
end Go.Proofs.YthoofdnnfahhaaaGreatDoor
