/- Seas that can be: the first fault of a list, in plain numbers. No condition. -/
import Derived.Test.YtgoljofmbidkfaaGreatDoorKr
import Derived.Test.YtgoljofmbidkfaaGreatDoorRc
import Derived.Test.YtgoljofmbidkfaaGreatDoorMn
namespace Go.Proofs.YtgoljofmbidkfaaGreatDoor
open Go Go.Eng
set_option maxRecDepth 100000
set_option linter.unusedSimpArgs false
set_option linter.unusedVariables false

/-- The first place of n at which p says yes; n if there is none. -/
def fstN (n : Nat) (p : Nat → Bool) : Nat := (List.range n).findIdx p
theorem fstN_le (n : Nat) (p : Nat → Bool) : fstN n p ≤ n := by
  have := List.findIdx_le_length (xs := List.range n) (p := p)
  simpa [fstN] using this
theorem fstN_no {n : Nat} {p : Nat → Bool} {i : Nat} (h : i < fstN n p) : p i = false := by
  have hl := fstN_le n p
  have := List.not_of_lt_findIdx (xs := List.range n) (p := p) (i := i) h
  simpa using this
theorem fstN_yes {n : Nat} {p : Nat → Bool} (h : fstN n p < n) : p (fstN n p) = true := by
  have := List.findIdx_getElem (xs := List.range n) (p := p) (w := by simpa [fstN] using h)
  simpa [fstN] using this
theorem fstN_is {n : Nat} {p : Nat → Bool} {k : Nat} (hk : k ≤ n) (h : ∀ i, i < k → p i = false) (h' : k < n → p k = true) : fstN n p = k := by
  rcases Nat.lt_trichotomy (fstN n p) k with hl | hl | hl
  · have := fstN_yes (n := n) (p := p) (by omega)
    rw [h _ hl] at this; cases this
  · exact hl
  · have h1 := fstN_no hl
    have := fstN_le n p
    rw [h' (by omega)] at h1; cases h1
theorem fstN_all {n : Nat} {p : Nat → Bool} (h : ∀ i, i < n → p i = false) : fstN n p = n := fstN_is (Nat.le_refl n) h (fun h => absurd h (Nat.lt_irrefl n))
theorem fstN_end {n : Nat} {p : Nat → Bool} (h : ¬ fstN n p < n) {i : Nat} (hi : i < n) : p i = false := fstN_no (n := n) (by omega)
theorem fstN_congr {n : Nat} {p q : Nat → Bool} (h : ∀ i, i < n → p i = q i) : fstN n p = fstN n q :=
  fstN_is (fstN_le n q) (fun i hi => by have := fstN_le n q; rw [h i (by omega)]; exact fstN_no hi) (fun hk => by rw [h _ hk]; exact fstN_yes hk)
def fstI (n : Nat) (p : Nat → Bool) : Int := if fstN n p < n then (fstN n p : Int) else -1
theorem fstI_no {n : Nat} {p : Nat → Bool} (h : ∀ i, i < n → p i = false) : fstI n p = -1 := if_neg (by rw [fstN_all h]; exact Nat.lt_irrefl n)
theorem fstI_ge {n : Nat} {p : Nat → Bool} : 0 ≤ fstI n p ↔ fstN n p < n := by
  unfold fstI
  by_cases h : fstN n p < n
  · rw [if_pos h]; exact ⟨fun _ => h, fun _ => by omega⟩
  · rw [if_neg h]; exact ⟨fun h' => absurd h' (by decide), fun h' => absurd h' h⟩
theorem fstI_neg {n : Nat} {p : Nat → Bool} (h : ¬ 0 ≤ fstI n p) {i : Nat} (hi : i < n) : p i = false := fstN_end (fun h' => h (fstI_ge.2 h')) hi
/-- Is x from lo to hi, and not -0? -/
def betw (x : Nat) (lo hi : Option Nat) : Bool := fge (some x) lo && (fle (some x) hi && !decide (x = 9223372036854775808))
theorem betw_ok (x : Nat) (lo hi : Option Nat) (m : List Blk) : COk Tryz.prog 3 68 [F x, .fl lo, .fl hi] m (Bo (betw x lo hi)) m := by
  have hd : ((x : Int) != 9223372036854775808) = !decide (x = 9223372036854775808) := by
    by_cases h : x = 9223372036854775808
    · subst h; rfl
    · rw [decide_eq_false h]; exact bne_iff_ne.2 (by omega)
  refine COk_quiet Tryz.f68 Tryz.func68 (by kernel_rfl) rfl ?_
  unfold betw
  conv => whnf
  refine br_intro (fun h1 => ?_) (fun h1 => ?_)
  · conv => whnf
    refine br_intro (fun h2 => ?_) (fun h2 => ?_)
    · (conv => whnf); repeat ((first | refine ⟨_, _, f64bits_ok _ _, ?_⟩ | refine ⟨_, f64bits_ok _ _, ?_⟩ | refine br_d (by omega) ?_ | refine br_nd (by omega) ?_ | refine br_eq (by omega) ?_ | refine br_neq (by omega) ?_ | refine br_ne (by omega) ?_ | refine br_no (bo_eqn (by omega)) ?_ | refine Or.inl ?_ | refine okS_no (by kernel_rfl) ?_ | refine okS_yes (by kernel_rfl) ?_ | refine And_of (by (conv => whnf); (rw [getB_app0]); (conv => whnf)) ?_ | refine setB_app ?_ | refine setB_app0 ?_ | rw [getB_app] | rw [getB_app0] | refine addB_f13 ?_ | refine addB_f12 ?_ | refine addB_f11 ?_ | refine addB_f10 ?_ | refine addB_f9 ?_ | refine addB_f8 ?_ | refine addB_f7 ?_ | refine addB_f6 ?_ | refine addB_f5 ?_ | refine addB_f4 ?_ | refine addB_f3 ?_ | refine addB_f2 ?_ | refine addB_f1 ?_ | refine addB_f0 ?_); conv => whnf)
      refine ⟨?_, [], by simp⟩
      rw [show fge (some x) lo = true from h1, show fle (some x) hi = true from h2, ← hd]; rfl
    · conv => whnf
      refine ⟨?_, [], by simp⟩
      rw [show fge (some x) lo = true from h1, show fle (some x) hi = false from h2]; rfl
  · conv => whnf
    refine ⟨?_, [], by simp⟩
    rw [show fge (some x) lo = false from h1]; rfl
/-- Floats from -most to most. -/
def badF (l : List Nat) (most : Nat) (i : Nat) : Bool := !betw (l.getD i 0) (fneg (some most)) (some most)
def flI (l : List Nat) (most : Nat) : Int := fstI l.length (badF l most)
/-- Quanta that are not below nothing and, with what there is already, at most all. -/
def mxW : Int := 4503599627370496
def badQ (l : List Int) (z : Int) (i : Nat) : Bool := decide (l.getD i 0 < 0) || decide (l.getD i 0 > mxW - pz l z i)
def quI (l : List Int) (z : Int) : Int := fstI l.length (badQ l z)
theorem pz_in {l : List Int} {z : Int} (hz : 0 ≤ z ∧ z ≤ mxW) {k : Nat} (h : ∀ i, i < k → badQ l z i = false) : 0 ≤ pz l z k ∧ pz l z k ≤ mxW := by
  induction k with
  | zero => exact hz
  | succ k ih =>
    obtain ⟨h1, h2⟩ := ih (fun i hi => h i (by omega))
    have := h k (by omega)
    unfold badQ at this
    rw [Bool.or_eq_false_iff] at this
    have a := of_ndec this.1
    have b := of_ndec this.2
    simp only [pz]
    omega
/-- A number from -most to most, that is no -0: by its sign and place. -/
theorem betw_iff {x most : Nat} (hx : x < 18446744073709551616) (hm : most ≤ infR) : betw x (fneg (some most)) (some most) = true ↔ ∃ s R, R ≤ most ∧ x = cw s R := by
  have hi := infR_lt
  have hneg : fneg (some most) = some (wd true most) := congrArg some ((congrArg (Op.negFloat .f64) (wd_false most).symm).trans (neg_wd false (by omega)))
  have hpos : (some most : Option Nat) = some (wd false most) := rfl
  unfold betw
  rw [hneg]
  constructor
  · intro h
    rw [Bool.and_eq_true, Bool.and_eq_true] at h
    obtain ⟨h1, h2, h3⟩ := h
    rcases nan_or hx with hn | ⟨s, R, hR, rfl⟩
    · unfold fge at h1
      rw [(nan_cmp hn _).1] at h1
      cases h1
    · rw [hpos] at h2
      rw [fge_rk _ _ hR hm] at h1
      rw [fle_rk _ _ hR hm] at h2
      have a := of_decide_eq_true h1
      have b := of_decide_eq_true h2
      refine ⟨s, R, ?_, ?_⟩
      · unfold rk at a b
        cases s <;> simp at a b <;> omega
      · unfold cw
        by_cases h0 : R = 0
        · subst h0
          rw [if_pos rfl]
          cases s
          · rfl
          · exact absurd h3 (by decide)
        · rw [if_neg h0]
  · rintro ⟨s, R, hR, rfl⟩
    have key : ∀ t Q, Q ≤ most → (t = true → Q ≠ 0) → (fge (some (wd t Q)) (some (wd true most)) && (fle (some (wd t Q)) (some most) && !decide (wd t Q = 9223372036854775808))) = true := by
      intro t Q hQ h0
      rw [hpos, fge_rk _ _ (by omega) hm, fle_rk _ _ (by omega) hm]
      have a : rk true most ≤ rk t Q := by unfold rk; cases t <;> simp <;> omega
      have b : rk t Q ≤ rk false most := by unfold rk; cases t <;> simp <;> omega
      have c : wd t Q ≠ 9223372036854775808 := by
        cases t
        · rw [wd_false]; omega
        · rw [wd_true]; have := h0 rfl; omega
      rw [decide_eq_true a, decide_eq_true b, decide_eq_false c]; rfl
    unfold cw
    split
    · exact key false 0 (Nat.zero_le _) (fun h => by cases h)
    · rename_i h0
      exact key s R hR (fun _ => h0)
/-- A speed behind a turn. -/
def trS (r : Bool) (u : Nat) : Nat := if r = true then negF u else u
theorem trS_betw {x most : Nat} (r : Bool) (hx : x < 18446744073709551616) (hm : most ≤ infR) (h : betw x (fneg (some most)) (some most) = true) : betw (trS r x) (fneg (some most)) (some most) = true ∧ trS r x < 18446744073709551616 := by
  obtain ⟨s, R, hR, rfl⟩ := (betw_iff hx hm).1 h
  have hi := infR_lt
  have lt : ∀ s, cw s R < 18446744073709551616 := by
    intro s
    unfold cw
    split
    · decide
    · cases s
      · rw [wd_false]; omega
      · rw [wd_true]; omega
  unfold trS
  split
  · rw [negF_cw s (by omega)]
    exact ⟨(betw_iff (lt _) hm).2 ⟨_, R, hR, rfl⟩, lt _⟩
  · exact ⟨h, hx⟩
theorem trS_two {x most : Nat} (r q : Bool) (hx : x < 18446744073709551616) (hm : most ≤ infR) (h : betw x (fneg (some most)) (some most) = true) : trS q (trS r x) = trS (r ^^ q) x := by
  obtain ⟨s, R, hR, rfl⟩ := (betw_iff hx hm).1 h
  unfold trS
  cases r <;> cases q <;> simp
  exact Good.neg_neg ⟨s, R, by omega, rfl⟩
end Go.Proofs.YtgoljofmbidkfaaGreatDoor
