import Derived.Test.YtgoljofmbidkfaaGreatDoorLv
import Derived.Test.YtgoljofmbidkfaaGreatDoorQ7
import Derived.Test.YtgoljofmbidkfaaGreatDoorCl
import Derived.Test.YtgoljofmbidkfaaGreatDoorEr
/- Packages limit and recon: what they answer. No condition. -/
namespace Go.Proofs.YtgoljofmbidkfaaGreatDoor
open Go Go.Eng
set_option maxRecDepth 100000
set_option linter.unusedSimpArgs false
set_option linter.unusedVariables false

abbrev twoW : Nat := 4611686018427387904
abbrev maxW : Nat := 9218868437227405311
/-- Leer's slope. -/
def leerF (x y : Option Nat) : Option Nat := fdiv (fmul (fmul (some twoW) x) y) (fadd x y)
def limO (kind : Int) (x y : Option Nat) : Option Nat :=
  if kind = 0 then some 0 else if kind = 1 then some (minO x y) else if kind = 2 then some (maxO (some (minO (fmul (some twoW) x) y)) (some (minO x (fmul (some twoW) y))))
  else if fne (leerF x y) (leerF x y) = true then some 0 else if fgt (absO (leerF x y)) (some maxW) = true then some 0 else leerF x y
/-- A limited slope. -/
def slopeF (kind : Int) (x y : Option Nat) : Nat :=
  if 0 ≤ kind ∧ kind ≤ 3 then
    (if fgt x (some 0) = true ∧ fgt y (some 0) = true then canonF (limO kind x y) else if flt x (some 0) = true ∧ flt y (some 0) = true then canonF (fneg (limO kind (fneg x) (fneg y))) else 0)
  else 0
/-- How deep the water of a cell stands. -/
def dpE (n : Nat) (Wt : List Int) (c : Nat) : Option Nat := depthF (Wt.getD c 0) (areaC n c)
def slantF (n : Nat) (lim : Int) (Wt : List Int) (up down back : Nat) : Option Nat :=
  fadd (dpE n Wt up) (fmul (some halfB) (some (slopeF lim (fsub (dpE n Wt up) (dpE n Wt back)) (fsub (dpE n Wt down) (dpE n Wt up)))))
def gateF (n : Nat) (Be : List Nat) (Wt : List Int) (up down : Nat) : Option Nat :=
  fsub (some (levelF (Be.getD up 0) (Wt.getD up 0) (areaC n up))) (some (maxO (some (Be.getD up 0)) (some (Be.getD down 0))))
def posF (r : Nat) : Nat := if fgt (some r) (some 0) = true then r else 0
def reconW (n : Nat) (lim : Int) (Be : List Nat) (Wt : List Int) (up down back : Nat) : Nat := posF (minO (slantF n lim Wt up down back) (gateF n Be Wt up down))
/-- The depth over an edge. -/
def reconF (n : Nat) (lim : Int) (Be : List Nat) (Wt : List Int) (y : Ed) (u : Nat) : Nat :=
  if fgt (some u) (some 0) = true then reconW n lim Be Wt y.1 y.2.2.1 (nbC n y.1 ((y.2.1 + 2) % 4)).1
  else if flt (some u) (some 0) = true then reconW n lim Be Wt y.2.2.1 y.1 (nbC n y.2.2.1 ((y.2.2.2 + 2) % 4)).1
  else 0
abbrev seaQ (j0 j1 a b : Nat) (vT vS : V) (sky step : Int) : V := .agg [.sl j0 0 a, .sl j1 0 b, vT, vS, .int .i64 sky, I step]
section
variable {M : List Blk} {b n : Nat} (hsc : scM M.length M = true) (N : Net M b n) {j0 j1 : Nat} {vT vS : V} {Be : List Nat} {Wt : List Int} (S0 : SlF M j0 0 Be) (S1 : SlI M j1 0 Wt) (l2 : vT.sc M.length = true) (l3 : vS.sc M.length = true) (o2 : vT.one = true) (o3 : vS.one = true) (sky step : Int)
end
end Go.Proofs.YtgoljofmbidkfaaGreatDoor
/- The least of two floats by their place. Plain. -/
namespace Go.Proofs.YtgoljofmbidkfaaGreatDoor
open Go Go.Eng
set_option maxRecDepth 100000
set_option linter.unusedSimpArgs false
set_option linter.unusedVariables false

/-- Where a number stands among the words. -/
def plI (s : Bool) (R : Nat) : Int := if s then 9223372036854775807 - (R : Int) else 9223372036854775808 + R
theorem infR_lt : infR < 9223372036854775808 := by decide
end Go.Proofs.YtgoljofmbidkfaaGreatDoor
/- Seas that can be: the first fault of a list, in plain numbers. No condition. -/
namespace Go.Proofs.YtgoljofmbidkfaaGreatDoor
open Go Go.Eng
set_option maxRecDepth 100000
set_option linter.unusedSimpArgs false
set_option linter.unusedVariables false

/-- The first place of n at which p says yes; n if there is none. -/
def fstN (n : Nat) (p : Nat → Bool) : Nat := (List.range n).findIdx p
theorem fstN_le (n : Nat) (p : Nat → Bool) : fstN n p ≤ n := by
  have := List.findIdx_le_length (xs := List.range n) (p := p)
  simpa [fstN] using this
theorem fstN_no {n : Nat} {p : Nat → Bool} {i : Nat} (h : i < fstN n p) : p i = false := by
  have hl := fstN_le n p
  have := List.not_of_lt_findIdx (xs := List.range n) (p := p) (i := i) h
  simpa using this
theorem fstN_yes {n : Nat} {p : Nat → Bool} (h : fstN n p < n) : p (fstN n p) = true := by
  have := List.findIdx_getElem (xs := List.range n) (p := p) (w := by simpa [fstN] using h)
  simpa [fstN] using this
theorem fstN_is {n : Nat} {p : Nat → Bool} {k : Nat} (hk : k ≤ n) (h : ∀ i, i < k → p i = false) (h' : k < n → p k = true) : fstN n p = k := by
  rcases Nat.lt_trichotomy (fstN n p) k with hl | hl | hl
  · have := fstN_yes (n := n) (p := p) (by omega)
    rw [h _ hl] at this; cases this
  · exact hl
  · have h1 := fstN_no hl
    have := fstN_le n p
    rw [h' (by omega)] at h1; cases h1
theorem fstN_all {n : Nat} {p : Nat → Bool} (h : ∀ i, i < n → p i = false) : fstN n p = n := fstN_is (Nat.le_refl n) h (fun h => absurd h (Nat.lt_irrefl n))
theorem fstN_end {n : Nat} {p : Nat → Bool} (h : ¬ fstN n p < n) {i : Nat} (hi : i < n) : p i = false := fstN_no (n := n) (by omega)
def fstI (n : Nat) (p : Nat → Bool) : Int := if fstN n p < n then (fstN n p : Int) else -1
theorem fstI_no {n : Nat} {p : Nat → Bool} (h : ∀ i, i < n → p i = false) : fstI n p = -1 := if_neg (by rw [fstN_all h]; exact Nat.lt_irrefl n)
theorem fstI_ge {n : Nat} {p : Nat → Bool} : 0 ≤ fstI n p ↔ fstN n p < n := by
  unfold fstI
  by_cases h : fstN n p < n
  · rw [if_pos h]; exact ⟨fun _ => h, fun _ => by omega⟩
  · rw [if_neg h]; exact ⟨fun h' => absurd h' (by decide), fun h' => absurd h' h⟩
theorem fstI_neg {n : Nat} {p : Nat → Bool} (h : ¬ 0 ≤ fstI n p) {i : Nat} (hi : i < n) : p i = false := fstN_end (fun h' => h (fstI_ge.2 h')) hi
/-- Is x from lo to hi, and not -0? -/
def betw (x : Nat) (lo hi : Option Nat) : Bool := fge (some x) lo && (fle (some x) hi && !decide (x = 9223372036854775808))
theorem betw_ok (x : Nat) (lo hi : Option Nat) (m : List Blk) : COk Tryz.prog 3 68 [F x, .fl lo, .fl hi] m (Bo (betw x lo hi)) m := by
  have hd : ((x : Int) != 9223372036854775808) = !decide (x = 9223372036854775808) := by
    by_cases h : x = 9223372036854775808
    · subst h; rfl
    · rw [decide_eq_false h]; exact bne_iff_ne.2 (by omega)
  refine COk_quiet Tryz.f68 Tryz.func68 (by kernel_rfl) rfl ?_
  unfold betw
  conv => whnf
  refine br_intro (fun h1 => ?_) (fun h1 => ?_)
  · conv => whnf
    refine br_intro (fun h2 => ?_) (fun h2 => ?_)
    · (conv => whnf); repeat ((first | refine ⟨_, _, f64bits_ok _ _, ?_⟩ | refine ⟨_, f64bits_ok _ _, ?_⟩ | refine br_d (by omega) ?_ | refine br_nd (by omega) ?_ | refine br_eq (by omega) ?_ | refine br_neq (by omega) ?_ | refine br_ne (by omega) ?_ | refine br_no (bo_eqn (by omega)) ?_ | refine Or.inl ?_ | refine okS_no (by kernel_rfl) ?_ | refine okS_yes (by kernel_rfl) ?_ | refine And_of (by (conv => whnf); (rw [getB_app0]); (conv => whnf)) ?_ | refine setB_app ?_ | refine setB_app0 ?_ | rw [getB_app] | rw [getB_app0] | refine addB_f13 ?_ | refine addB_f12 ?_ | refine addB_f11 ?_ | refine addB_f10 ?_ | refine addB_f9 ?_ | refine addB_f8 ?_ | refine addB_f7 ?_ | refine addB_f6 ?_ | refine addB_f5 ?_ | refine addB_f4 ?_ | refine addB_f3 ?_ | refine addB_f2 ?_ | refine addB_f1 ?_ | refine addB_f0 ?_); conv => whnf)
      refine ⟨?_, [], by simp⟩
      rw [show fge (some x) lo = true from h1, show fle (some x) hi = true from h2, ← hd]; rfl
    · conv => whnf
      refine ⟨?_, [], by simp⟩
      rw [show fge (some x) lo = true from h1, show fle (some x) hi = false from h2]; rfl
  · conv => whnf
    refine ⟨?_, [], by simp⟩
    rw [show fge (some x) lo = false from h1]; rfl
/-- Floats from -most to most. -/
def badF (l : List Nat) (most : Nat) (i : Nat) : Bool := !betw (l.getD i 0) (fneg (some most)) (some most)
def flI (l : List Nat) (most : Nat) : Int := fstI l.length (badF l most)
/-- Quanta that are not below nothing and, with what there is already, at most all. -/
def mxW : Int := 4503599627370496
def badQ (l : List Int) (z : Int) (i : Nat) : Bool := decide (l.getD i 0 < 0) || decide (l.getD i 0 > mxW - pz l z i)
def quI (l : List Int) (z : Int) : Int := fstI l.length (badQ l z)
theorem pz_in {l : List Int} {z : Int} (hz : 0 ≤ z ∧ z ≤ mxW) {k : Nat} (h : ∀ i, i < k → badQ l z i = false) : 0 ≤ pz l z k ∧ pz l z k ≤ mxW := by
  induction k with
  | zero => exact hz
  | succ k ih =>
    obtain ⟨h1, h2⟩ := ih (fun i hi => h i (by omega))
    have := h k (by omega)
    unfold badQ at this
    rw [Bool.or_eq_false_iff] at this
    have a := of_ndec this.1
    have b := of_ndec this.2
    simp only [pz]
    omega
/-- A number from -most to most, that is no -0: by its sign and place. -/
theorem betw_iff {x most : Nat} (hx : x < 18446744073709551616) (hm : most ≤ infR) : betw x (fneg (some most)) (some most) = true ↔ ∃ s R, R ≤ most ∧ x = cw s R := by
  have hi := infR_lt
  have hneg : fneg (some most) = some (wd true most) := congrArg some ((congrArg (Op.negFloat .f64) (wd_false most).symm).trans (neg_wd false (by omega)))
  have hpos : (some most : Option Nat) = some (wd false most) := rfl
  unfold betw
  rw [hneg]
  constructor
  · intro h
    rw [Bool.and_eq_true, Bool.and_eq_true] at h
    obtain ⟨h1, h2, h3⟩ := h
    rcases nan_or hx with hn | ⟨s, R, hR, rfl⟩
    · unfold fge at h1
      rw [(nan_cmp hn _).1] at h1
      cases h1
    · rw [hpos] at h2
      rw [fge_rk _ _ hR hm] at h1
      rw [fle_rk _ _ hR hm] at h2
      have a := of_decide_eq_true h1
      have b := of_decide_eq_true h2
      refine ⟨s, R, ?_, ?_⟩
      · unfold rk at a b
        cases s <;> simp at a b <;> omega
      · unfold cw
        by_cases h0 : R = 0
        · subst h0
          rw [if_pos rfl]
          cases s
          · rfl
          · exact absurd h3 (by decide)
        · rw [if_neg h0]
  · rintro ⟨s, R, hR, rfl⟩
    have key : ∀ t Q, Q ≤ most → (t = true → Q ≠ 0) → (fge (some (wd t Q)) (some (wd true most)) && (fle (some (wd t Q)) (some most) && !decide (wd t Q = 9223372036854775808))) = true := by
      intro t Q hQ h0
      rw [hpos, fge_rk _ _ (by omega) hm, fle_rk _ _ (by omega) hm]
      have a : rk true most ≤ rk t Q := by unfold rk; cases t <;> simp <;> omega
      have b : rk t Q ≤ rk false most := by unfold rk; cases t <;> simp <;> omega
      have c : wd t Q ≠ 9223372036854775808 := by
        cases t
        · rw [wd_false]; omega
        · rw [wd_true]; have := h0 rfl; omega
      rw [decide_eq_true a, decide_eq_true b, decide_eq_false c]; rfl
    unfold cw
    split
    · exact key false 0 (Nat.zero_le _) (fun h => by cases h)
    · rename_i h0
      exact key s R hR (fun _ => h0)
/-- A speed behind a turn. -/
def trS (r : Bool) (u : Nat) : Nat := if r = true then negF u else u
theorem trS_betw {x most : Nat} (r : Bool) (hx : x < 18446744073709551616) (hm : most ≤ infR) (h : betw x (fneg (some most)) (some most) = true) : betw (trS r x) (fneg (some most)) (some most) = true ∧ trS r x < 18446744073709551616 := by
  obtain ⟨s, R, hR, rfl⟩ := (betw_iff hx hm).1 h
  have hi := infR_lt
  have lt : ∀ s, cw s R < 18446744073709551616 := by
    intro s
    unfold cw
    split
    · decide
    · cases s
      · rw [wd_false]; omega
      · rw [wd_true]; omega
  unfold trS
  split
  · rw [negF_cw s (by omega)]
    exact ⟨(betw_iff (lt _) hm).2 ⟨_, R, hR, rfl⟩, lt _⟩
  · exact ⟨h, hx⟩
end Go.Proofs.YtgoljofmbidkfaaGreatDoor
/- Seas that can be, and turned seas, in plain numbers. No condition. -/
namespace Go.Proofs.YtgoljofmbidkfaaGreatDoor
open Go Go.Eng
set_option maxRecDepth 100000
set_option linter.unusedSimpArgs false
set_option linter.unusedVariables false

def mxH : Nat := 4697254411347427328
def mxS : Nat := 4652218415073722368
def mxT : Int := 4611686018427387904
/-- What a check of a sea answers: the place of the first fault, and which it is. -/
def chkF (side : Int) (Be : List Nat) (Wt Tr : List Int) (Sp : List Nat) (sky step : Int) : Int × Int :=
  if ¬ (1 ≤ side ∧ side ≤ 32) then (0, 10) else
  if (Be.length : Int) ≠ cellsI side then (0, 12) else
  if (Wt.length : Int) ≠ cellsI side then (1, 12) else
  if (Tr.length : Int) ≠ cellsI side then (2, 12) else
  if (Sp.length : Int) ≠ 2 * cellsI side then (3, 12) else
  if 0 ≤ flI Be mxH then (flI Be mxH, 13) else
  if sky < 0 ∨ sky > mxW then (0, 17) else
  if 0 ≤ quI Wt sky then (quI Wt sky, 14) else
  if 0 ≤ quI Tr 0 then (quI Tr 0, 15) else
  if 0 ≤ flI Sp mxS then (flI Sp mxS, 16) else
  if step < 0 ∨ step > mxT then (0, 1) else (0, 0)
structure SeaOk (n : Nat) (Be : List Nat) (Wt Tr : List Int) (Sp : List Nat) (sky step : Int) : Prop where
  n1 : 1 ≤ n
  n2 : n ≤ 32
  l0 : Be.length = 6 * (n * n)
  l1 : Wt.length = 6 * (n * n)
  l2 : Tr.length = 6 * (n * n)
  l3 : Sp.length = (edges n).length
  bed : ∀ i, i < Be.length → badF Be mxH i = false
  skb : 0 ≤ sky ∧ sky ≤ mxW
  wat : ∀ i, i < Wt.length → badQ Wt sky i = false
  tra : ∀ i, i < Tr.length → badQ Tr 0 i = false
  spd : ∀ i, i < Sp.length → badF Sp mxS i = false
  stp : 0 ≤ step ∧ step ≤ mxT
theorem cellsI_n {n : Nat} (h1 : 1 ≤ n) (h2 : n ≤ 32) : cellsI (n : Int) = ((6 * (n * n) : Nat) : Int) := by
  rw [cellsI, if_pos ⟨by omega, by omega⟩]; simp
section
variable {Be : List Nat} {Wt Tr : List Int} {Sp : List Nat} {sky step : Int}
theorem SeaOk.chk {n : Nat} (h : SeaOk n Be Wt Tr Sp sky step) : chkF n Be Wt Tr Sp sky step = (0, 0) := by
  have hc := cellsI_n h.n1 h.n2
  have he := edges_len h.n1
  have a0 := h.l0
  have a1 := h.l1
  have a2 := h.l2
  have a3 := h.l3
  have b0 : ¬ 0 ≤ flI Be mxH := by rw [flI, fstI_no h.bed]; decide
  have b1 : ¬ 0 ≤ quI Wt sky := by rw [quI, fstI_no h.wat]; decide
  have b2 : ¬ 0 ≤ quI Tr 0 := by rw [quI, fstI_no h.tra]; decide
  have b3 : ¬ 0 ≤ flI Sp mxS := by rw [flI, fstI_no h.spd]; decide
  have c1 := h.skb
  have c2 := h.stp
  have d1 := h.n1
  have d2 := h.n2
  unfold chkF
  rw [if_neg (by omega), if_neg (by omega), if_neg (by omega), if_neg (by omega), if_neg (by omega), if_neg b0, if_neg (by omega), if_neg b1, if_neg b2, if_neg b3, if_neg (by omega)]
theorem chk_ok {side : Int} (h : (chkF side Be Wt Tr Sp sky step).2 = 0) : ∃ n : Nat, side = n ∧ SeaOk n Be Wt Tr Sp sky step := by
  unfold chkF at h
  by_cases h1 : 1 ≤ side ∧ side ≤ 32
  · obtain ⟨n, rfl⟩ : ∃ n : Nat, side = n := ⟨side.toNat, by omega⟩
    have n1 : 1 ≤ n := by omega
    have n2 : n ≤ 32 := by omega
    have hc := cellsI_n n1 n2
    have he := edges_len n1
    rw [if_neg (by omega)] at h
    split at h; · exact absurd h (by intro h; cases h)
    split at h; · exact absurd h (by intro h; cases h)
    split at h; · exact absurd h (by intro h; cases h)
    split at h; · exact absurd h (by intro h; cases h)
    split at h; · exact absurd h (by intro h; cases h)
    rename_i k0 k1 k2 k3 k4
    split at h; · exact absurd h (by intro h; cases h)
    split at h; · exact absurd h (by intro h; cases h)
    split at h; · exact absurd h (by intro h; cases h)
    split at h; · exact absurd h (by intro h; cases h)
    split at h; · exact absurd h (by intro h; cases h)
    rename_i k5 k6 k7 k8 k9
    exact ⟨n, rfl, n1, n2, by omega, by omega, by omega, by omega, fun i hi => fstI_neg k4 hi, by omega, fun i hi => fstI_neg k6 hi, fun i hi => fstI_neg k7 hi, fun i hi => fstI_neg k8 hi, by omega⟩
  · rw [if_pos h1] at h; exact absurd h (by decide)
end
/-- Numbers of a list that is no worse. -/
theorem badF_no {l : List Nat} {most i : Nat} (h : badF l most i = false) : betw (l.getD i 0) (fneg (some most)) (some most) = true := by
  unfold badF at h; simpa using h
theorem badF_of {l : List Nat} {most i : Nat} (h : betw (l.getD i 0) (fneg (some most)) (some most) = true) : badF l most i = false := by
  unfold badF; rw [h]; rfl
theorem badQ_no {l : List Int} {z : Int} {i : Nat} (h : badQ l z i = false) : 0 ≤ l.getD i 0 ∧ l.getD i 0 + pz l z i ≤ mxW := by
  unfold badQ at h
  rw [Bool.or_eq_false_iff] at h
  have a := of_ndec h.1
  have b := of_ndec h.2
  omega
theorem badQ_of {l : List Int} {z : Int} {i : Nat} (h : 0 ≤ l.getD i 0 ∧ l.getD i 0 + pz l z i ≤ mxW) : badQ l z i = false := by
  unfold badQ
  rw [Bool.or_eq_false_iff]
  exact ⟨decide_eq_false (by omega), decide_eq_false (by omega)⟩
/-- Quanta are well if none is below nothing and all together are no more than there may be. -/
theorem pz_le {l : List Int} {z : Int} (h : ∀ i, i < l.length → 0 ≤ l.getD i 0) : ∀ d k, k + d = l.length → pz l z k ≤ pz l z l.length
  | 0, k, e => by rw [show k = l.length by omega]; exact Int.le_refl _
  | d + 1, k, e => by
    have := pz_le (z := z) h d (k + 1) (by omega)
    have := h k (by omega)
    simp only [pz] at *
    omega
theorem quanta_all {l : List Int} {z : Int} : (∀ i, i < l.length → badQ l z i = false) ↔ (∀ i, i < l.length → 0 ≤ l.getD i 0) ∧ (0 < l.length → pz l z l.length ≤ mxW) := by
  constructor
  · intro h
    refine ⟨fun i hi => (badQ_no (h i hi)).1, fun h0 => ?_⟩
    have := (badQ_no (h (l.length - 1) (by omega))).2
    rw [show l.length = l.length - 1 + 1 by omega]
    simp only [pz]
    omega
  · rintro ⟨h1, h2⟩ i hi
    refine badQ_of ⟨h1 i hi, ?_⟩
    have := pz_le (z := z) h1 (l.length - (i + 1)) (i + 1) (by omega)
    simp only [pz] at this
    have := h2 (by omega)
    omega
/-- All numbers together are the same behind a turn. -/
theorem ps_set {l : List Int} {i : Nat} {x : Int} : ∀ k, i < k → k ≤ l.length → ps (l.set i x) k = ps l k - l.getD i 0 + x
  | 0, h, _ => absurd h (Nat.not_lt_zero i)
  | k + 1, h, hk => by
    have at' : ∀ j, i ≠ j → (l.set i x).getD j 0 = l.getD j 0 := fun j h => by
      rw [List.getD_eq_getElem?_getD, List.getElem?_set, if_neg h, ← List.getD_eq_getElem?_getD]
    simp only [ps]
    by_cases e : i = k
    · subst e
      have low : ∀ k, k ≤ i → ps (l.set i x) k = ps l k := by
        intro k
        induction k with
        | zero => intro _; rfl
        | succ k ih => intro hk; simp only [ps]; rw [ih (by omega), at' k (by omega)]
      rw [low i (Nat.le_refl _), List.getD_eq_getElem?_getD, List.getElem?_set, if_pos rfl, if_pos (by omega)]
      simp only [Option.getD_some]
      omega
    · rw [ps_set k (by omega) (by omega), at' k e]; omega
/-! ### Turned lists -/
def trB {α : Type} (z : α) (n t : Nat) (l : List α) : List α := tab (6 * (n * n)) fun j => l.getD (tC n (inv t) j) z
def trP (n t : Nat) (l : List Nat) : List Nat := tab (edges n).length fun j => trS (tR n t (tE n (inv t) j)) (l.getD (tE n (inv t) j) 0)
section
variable {n t u : Nat} (hn : 1 ≤ n) (ht : t < 24)
theorem trB_len {α : Type} (z : α) (n t : Nat) (l : List α) : (trB z n t l).length = 6 * (n * n) := tab_len _ _
theorem trP_len (n t : Nat) (l : List Nat) : (trP n t l).length = (edges n).length := tab_len _ _
include hn ht
theorem ps_tl {v : Nat → Int} {l : List Int} (hv : ∀ c, c < 6 * (n * n) → l.getD c 0 = v c) : ∀ k, k ≤ 6 * (n * n) → ps (tl 0 n t v k) (6 * (n * n)) = ps l k
  | 0, _ => by
    have : ∀ N k, ps (List.replicate N (0 : Int)) k = 0 := by
      intro N k
      induction k with
      | zero => rfl
      | succ k ih => simp only [ps]; rw [ih, List.getD_eq_getElem?_getD, List.getElem?_replicate]; split <;> rfl
    exact this _ _
  | k + 1, hk => by
    have hz : (tl 0 n t v k).getD (tC n t k) 0 = 0 := by
      have : ∀ i, i ≤ k → (tl 0 n t v i).getD (tC n t k) 0 = 0 := by
        intro i
        induction i with
        | zero => intro _; rw [tl, List.getD_eq_getElem?_getD, List.getElem?_replicate]; split <;> rfl
        | succ i ih =>
          intro hi
          rw [tl, List.getD_eq_getElem?_getD, List.getElem?_set, if_neg (fun e => ?_), ← List.getD_eq_getElem?_getD]
          · exact ih (by omega)
          · have := tC_inj hn ht (show i < 6 * (n * n) by omega) (show k < 6 * (n * n) by omega) e
            omega
      exact this k (Nat.le_refl _)
    rw [tl, ps_set (6 * (n * n)) (tC_lt hn ht (show k < 6 * (n * n) by omega)).1 (by rw [tl_len]; exact Nat.le_refl _), hz, ps_tl hv k (by omega)]
    simp only [ps]
    rw [hv k (by omega)]
    omega
theorem trB_tl {α : Type} {z : α} {l : List α} : trB z n t l = tl z n t (fun c => l.getD c z) (6 * (n * n)) := by
  rw [tab_list (tl z n t (fun c => l.getD c z) (6 * (n * n))) z, tl_len]
  refine tab_congr fun j hj => ?_
  have hi := (inv_ok t ht).1
  have := tl_get (z := z) (v := fun c => l.getD c z) hn ht (6 * (n * n)) (Nat.le_refl _) (tC n (inv t) j) (tC_lt hn hi hj).1
  rw [(tC_inv hn ht hj).1] at this
  exact this.symm
theorem trB_sum {l : List Int} (hl : l.length = 6 * (n * n)) (z : Int) : pz (trB 0 n t l) z (trB 0 n t l).length = pz l z l.length := by
  rw [pz_ps, pz_ps, trB_len, hl, trB_tl hn ht, ps_tl hn ht (fun c _ => rfl) _ (Nat.le_refl _)]
end
/-- A turned sea can be. -/
theorem SeaOk.turn {n t : Nat} {Be : List Nat} {Wt Tr : List Int} {Sp : List Nat} {sky step : Int} (h : SeaOk n Be Wt Tr Sp sky step) (ht : t < 24) (hw : ∀ i, i < Sp.length → Sp.getD i 0 < 18446744073709551616) :
    SeaOk n (trB 0 n t Be) (trB 0 n t Wt) (trB 0 n t Tr) (trP n t Sp) sky step := by
  have hn := h.n1
  have i1 := (inv_ok t ht).1
  have low : ∀ {l : List Int}, l.length = 6 * (n * n) → (∀ i, i < l.length → 0 ≤ l.getD i 0) → ∀ i, i < (trB 0 n t l).length → 0 ≤ (trB 0 n t l).getD i 0 := fun {l} hl hp i hi => by
    rw [trB_len] at hi
    unfold trB
    rw [tab_get hi]
    exact hp _ (by rw [hl]; exact (tC_lt hn i1 hi).1)
  refine ⟨h.n1, h.n2, trB_len _ _ _ _, trB_len _ _ _ _, trB_len _ _ _ _, trP_len _ _ _, fun i hi => ?_, h.skb, ?_, ?_, fun i hi => ?_, h.stp⟩
  · rw [trB_len] at hi
    refine badF_of ?_
    unfold trB
    rw [tab_get hi]
    exact badF_no (h.bed _ (by rw [h.l0]; exact (tC_lt hn i1 hi).1))
  · obtain ⟨a, b⟩ := quanta_all.1 h.wat
    refine quanta_all.2 ⟨low h.l1 a, fun _ => ?_⟩
    rw [trB_sum hn ht h.l1]
    rename_i h0
    rw [trB_len] at h0
    exact b (by rw [h.l1]; exact h0)
  · obtain ⟨a, b⟩ := quanta_all.1 h.tra
    refine quanta_all.2 ⟨low h.l2 a, fun _ => ?_⟩
    rw [trB_sum hn ht h.l2]
    rename_i h0
    rw [trB_len] at h0
    exact b (by rw [h.l2]; exact h0)
  · rw [trP_len] at hi
    have l1 := tE_lt hn i1 hi
    refine badF_of ?_
    unfold trP
    rw [tab_get hi]
    exact (trS_betw _ (hw _ (by rw [h.l3]; exact l1)) (by decide) (badF_no (h.spd _ (by rw [h.l3]; exact l1)))).1
end Go.Proofs.YtgoljofmbidkfaaGreatDoor
/- Package state: lists that are gone through by closures; a sea that is checked. No condition. -/
namespace Go.Proofs.YtgoljofmbidkfaaGreatDoor
open Go Go.Eng
set_option maxRecDepth 100000
set_option linter.unusedSimpArgs false
set_option linter.unusedVariables false

set_option maxHeartbeats 0 in
theorem idxF_ok {fn : FuncId} {j o n jc : Nat} (Ms : Nat → List Blk) (p : Nat → Bool) (l : List Nat) (hn : l.length = n) (hsc : ∀ i, i ≤ n → scM (Ms i).length (Ms i) = true) (hl : ∀ i, (Ms i).length = (Ms 0).length) (hng : 3 ≤ (Ms 0).length) (S : ∀ i, SlF (Ms i) j o l) (hjc : jc < (Ms 0).length)
    (h0 : ∀ i, i < fstN n p → COk Tryz.prog 3 fn [F (l.getD i 0), .ptr jc 0] (Ms i) (Bo false) (Ms (i + 1))) (h1 : fstN n p < n → ∀ i, i = fstN n p → COk Tryz.prog 3 fn [F (l.getD i 0), .ptr jc 0] (Ms i) (Bo true) (Ms i)) :
    COk Tryz.prog 3 124 [.sl j o n, .clo (.func fn) [] [.ptr jc 0]] (Ms 0) (I (fstI n p)) (Ms (fstN n p)) := by
  have wl := (S 0).short
  have hj := (S 0).lt
  have hle := fstN_le n p
  subst hn
  refine COk_of_ev Tryz.f124 Tryz.func124 (by kernel_rfl) (by have := hl (fstN l.length p); omega) rfl (.inr (hsc _ hle)) ?_
  by_cases hk : fstN l.length p < l.length
  · rw [show fstI l.length p = (fstN l.length p : Int) from if_pos hk]
    have h1 := h1 hk _ rfl
    generalize fstN l.length p = k at *
    (conv => whnf); repeat ((first | refine br_d (by omega) ?_ | refine br_nd (by omega) ?_ | refine br_eq (by omega) ?_ | refine br_neq (by omega) ?_ | refine br_ne (by omega) ?_ | refine br_no (bo_eqn (by omega)) ?_ | refine Or.inl ?_ | refine okS_no (by kernel_rfl) ?_ | refine okS_yes (by kernel_rfl) ?_ | refine And_of (by (conv => whnf); (rw [getB_app0]); (conv => whnf)) ?_ | refine setB_app ?_ | refine setB_app0 ?_ | rw [getB_app] | rw [getB_app0] | refine addB_f13 ?_ | refine addB_f12 ?_ | refine addB_f11 ?_ | refine addB_f10 ?_ | refine addB_f9 ?_ | refine addB_f8 ?_ | refine addB_f7 ?_ | refine addB_f6 ?_ | refine addB_f5 ?_ | refine addB_f4 ?_ | refine addB_f3 ?_ | refine addB_f2 ?_ | refine addB_f1 ?_ | refine addB_f0 ?_); conv => whnf)
    refine loop_to (fun i => [.sl j o l.length, .clo (.func fn) [] [.ptr jc 0], .any, .any, .any, .any, .any, I l.length, I i, .any, .any, .any, .any, .any, .any, .any, .any, .any, .any]) (fun i => Ms i) 0 k (Nat.zero_le _) ?_ ?_ ?_
    · refine Fg.of [] ?_ (by rw [List.append_nil]) (by first | (simp; done) | (simp; omega)) (by first | (simp [scL, V.sc]; done) | (simp [scL, V.sc]; omega)) (hsc _ (by omega))
      conv => whnf
      exact ⟨rfl, rfl, rfl, rfl, rfl⟩
    · intro i _ hi
      have hc := h0 i hi
      have hS := S i
      have hli := hl (i + 1)
      (conv => whnf); repeat ((first | refine SlF.at hS (i := i) (by omega) rfl ?_ | refine ⟨_, _, hc, ?_⟩ | refine ⟨_, hc, ?_⟩ | refine br_d (by omega) ?_ | refine br_nd (by omega) ?_ | refine br_eq (by omega) ?_ | refine br_neq (by omega) ?_ | refine br_ne (by omega) ?_ | refine br_no (bo_eqn (by omega)) ?_ | refine Or.inl ?_ | refine okS_no (by kernel_rfl) ?_ | refine okS_yes (by kernel_rfl) ?_ | refine And_of (by (conv => whnf); (rw [getB_app0]); (conv => whnf)) ?_ | refine setB_app ?_ | refine setB_app0 ?_ | rw [getB_app] | rw [getB_app0] | refine addB_f13 ?_ | refine addB_f12 ?_ | refine addB_f11 ?_ | refine addB_f10 ?_ | refine addB_f9 ?_ | refine addB_f8 ?_ | refine addB_f7 ?_ | refine addB_f6 ?_ | refine addB_f5 ?_ | refine addB_f4 ?_ | refine addB_f3 ?_ | refine addB_f2 ?_ | refine addB_f1 ?_ | refine addB_f0 ?_); conv => whnf)
      refine Fg.of [] ?_ (by rw [List.append_nil]) (by first | (simp; done) | (simp; omega)) (by first | (simp [scL, V.sc]; done) | (simp [scL, V.sc]; omega)) (hsc _ (by omega))
      conv => whnf
      exact ⟨rfl, rfl, rfl, wrapKL (by omega), rfl⟩
    · have hS := S k
      (conv => whnf); repeat ((first | refine SlF.at hS (i := k) (by omega) rfl ?_ | refine ⟨_, _, h1, ?_⟩ | refine ⟨_, h1, ?_⟩ | refine br_d (by omega) ?_ | refine br_nd (by omega) ?_ | refine br_eq (by omega) ?_ | refine br_neq (by omega) ?_ | refine br_ne (by omega) ?_ | refine br_no (bo_eqn (by omega)) ?_ | refine Or.inl ?_ | refine okS_no (by kernel_rfl) ?_ | refine okS_yes (by kernel_rfl) ?_ | refine And_of (by (conv => whnf); (rw [getB_app0]); (conv => whnf)) ?_ | refine setB_app ?_ | refine setB_app0 ?_ | rw [getB_app] | rw [getB_app0] | refine addB_f13 ?_ | refine addB_f12 ?_ | refine addB_f11 ?_ | refine addB_f10 ?_ | refine addB_f9 ?_ | refine addB_f8 ?_ | refine addB_f7 ?_ | refine addB_f6 ?_ | refine addB_f5 ?_ | refine addB_f4 ?_ | refine addB_f3 ?_ | refine addB_f2 ?_ | refine addB_f1 ?_ | refine addB_f0 ?_); conv => whnf)
      exact ⟨rfl, [], by simp⟩
  · rw [show fstI l.length p = -1 from if_neg hk]
    have e : fstN l.length p = l.length := by omega
    rw [e] at h0 ⊢
    clear h1 hk hle e
    (conv => whnf); repeat ((first | refine br_d (by omega) ?_ | refine br_nd (by omega) ?_ | refine br_eq (by omega) ?_ | refine br_neq (by omega) ?_ | refine br_ne (by omega) ?_ | refine br_no (bo_eqn (by omega)) ?_ | refine Or.inl ?_ | refine okS_no (by kernel_rfl) ?_ | refine okS_yes (by kernel_rfl) ?_ | refine And_of (by (conv => whnf); (rw [getB_app0]); (conv => whnf)) ?_ | refine setB_app ?_ | refine setB_app0 ?_ | rw [getB_app] | rw [getB_app0] | refine addB_f13 ?_ | refine addB_f12 ?_ | refine addB_f11 ?_ | refine addB_f10 ?_ | refine addB_f9 ?_ | refine addB_f8 ?_ | refine addB_f7 ?_ | refine addB_f6 ?_ | refine addB_f5 ?_ | refine addB_f4 ?_ | refine addB_f3 ?_ | refine addB_f2 ?_ | refine addB_f1 ?_ | refine addB_f0 ?_); conv => whnf)
    refine loop_to (fun i => [.sl j o l.length, .clo (.func fn) [] [.ptr jc 0], .any, .any, .any, .any, .any, I l.length, I i, .any, .any, .any, .any, .any, .any, .any, .any, .any, .any]) (fun i => Ms i) 0 l.length (Nat.zero_le _) ?_ ?_ ?_
    · refine Fg.of [] ?_ (by rw [List.append_nil]) (by first | (simp; done) | (simp; omega)) (by first | (simp [scL, V.sc]; done) | (simp [scL, V.sc]; omega)) (hsc _ (by omega))
      conv => whnf
      exact ⟨rfl, rfl, rfl, rfl, rfl⟩
    · intro i _ hi
      have hc := h0 i hi
      have hS := S i
      have hli := hl (i + 1)
      (conv => whnf); repeat ((first | refine SlF.at hS (i := i) (by omega) rfl ?_ | refine ⟨_, _, hc, ?_⟩ | refine ⟨_, hc, ?_⟩ | refine br_d (by omega) ?_ | refine br_nd (by omega) ?_ | refine br_eq (by omega) ?_ | refine br_neq (by omega) ?_ | refine br_ne (by omega) ?_ | refine br_no (bo_eqn (by omega)) ?_ | refine Or.inl ?_ | refine okS_no (by kernel_rfl) ?_ | refine okS_yes (by kernel_rfl) ?_ | refine And_of (by (conv => whnf); (rw [getB_app0]); (conv => whnf)) ?_ | refine setB_app ?_ | refine setB_app0 ?_ | rw [getB_app] | rw [getB_app0] | refine addB_f13 ?_ | refine addB_f12 ?_ | refine addB_f11 ?_ | refine addB_f10 ?_ | refine addB_f9 ?_ | refine addB_f8 ?_ | refine addB_f7 ?_ | refine addB_f6 ?_ | refine addB_f5 ?_ | refine addB_f4 ?_ | refine addB_f3 ?_ | refine addB_f2 ?_ | refine addB_f1 ?_ | refine addB_f0 ?_); conv => whnf)
      refine Fg.of [] ?_ (by rw [List.append_nil]) (by first | (simp; done) | (simp; omega)) (by first | (simp [scL, V.sc]; done) | (simp [scL, V.sc]; omega)) (hsc _ (by omega))
      conv => whnf
      exact ⟨rfl, rfl, rfl, wrapKL (by omega), rfl⟩
    · (conv => whnf); repeat ((first | refine br_d (by omega) ?_ | refine br_nd (by omega) ?_ | refine br_eq (by omega) ?_ | refine br_neq (by omega) ?_ | refine br_ne (by omega) ?_ | refine br_no (bo_eqn (by omega)) ?_ | refine Or.inl ?_ | refine okS_no (by kernel_rfl) ?_ | refine okS_yes (by kernel_rfl) ?_ | refine And_of (by (conv => whnf); (rw [getB_app0]); (conv => whnf)) ?_ | refine setB_app ?_ | refine setB_app0 ?_ | rw [getB_app] | rw [getB_app0] | refine addB_f13 ?_ | refine addB_f12 ?_ | refine addB_f11 ?_ | refine addB_f10 ?_ | refine addB_f9 ?_ | refine addB_f8 ?_ | refine addB_f7 ?_ | refine addB_f6 ?_ | refine addB_f5 ?_ | refine addB_f4 ?_ | refine addB_f3 ?_ | refine addB_f2 ?_ | refine addB_f1 ?_ | refine addB_f0 ?_); conv => whnf)
      exact ⟨rfl, [], by simp⟩
set_option maxHeartbeats 0 in
theorem idxI_ok {fn : FuncId} {j o n jc : Nat} (Ms : Nat → List Blk) (p : Nat → Bool) (l : List Int) (hn : l.length = n) (hsc : ∀ i, i ≤ n → scM (Ms i).length (Ms i) = true) (hl : ∀ i, (Ms i).length = (Ms 0).length) (hng : 3 ≤ (Ms 0).length) (S : ∀ i, SlI (Ms i) j o l) (hjc : jc < (Ms 0).length)
    (h0 : ∀ i, i < fstN n p → COk Tryz.prog 3 fn [.int .i64 (l.getD i 0), .ptr jc 0] (Ms i) (Bo false) (Ms (i + 1))) (h1 : fstN n p < n → ∀ i, i = fstN n p → COk Tryz.prog 3 fn [.int .i64 (l.getD i 0), .ptr jc 0] (Ms i) (Bo true) (Ms i)) :
    COk Tryz.prog 3 126 [.sl j o n, .clo (.func fn) [] [.ptr jc 0]] (Ms 0) (I (fstI n p)) (Ms (fstN n p)) := by
  have wl := (S 0).short
  have hj := (S 0).lt
  have hle := fstN_le n p
  subst hn
  refine COk_of_ev Tryz.f126 Tryz.func126 (by kernel_rfl) (by have := hl (fstN l.length p); omega) rfl (.inr (hsc _ hle)) ?_
  by_cases hk : fstN l.length p < l.length
  · rw [show fstI l.length p = (fstN l.length p : Int) from if_pos hk]
    have h1 := h1 hk _ rfl
    generalize fstN l.length p = k at *
    (conv => whnf); repeat ((first | refine br_d (by omega) ?_ | refine br_nd (by omega) ?_ | refine br_eq (by omega) ?_ | refine br_neq (by omega) ?_ | refine br_ne (by omega) ?_ | refine br_no (bo_eqn (by omega)) ?_ | refine Or.inl ?_ | refine okS_no (by kernel_rfl) ?_ | refine okS_yes (by kernel_rfl) ?_ | refine And_of (by (conv => whnf); (rw [getB_app0]); (conv => whnf)) ?_ | refine setB_app ?_ | refine setB_app0 ?_ | rw [getB_app] | rw [getB_app0] | refine addB_f13 ?_ | refine addB_f12 ?_ | refine addB_f11 ?_ | refine addB_f10 ?_ | refine addB_f9 ?_ | refine addB_f8 ?_ | refine addB_f7 ?_ | refine addB_f6 ?_ | refine addB_f5 ?_ | refine addB_f4 ?_ | refine addB_f3 ?_ | refine addB_f2 ?_ | refine addB_f1 ?_ | refine addB_f0 ?_); conv => whnf)
    refine loop_to (fun i => [.sl j o l.length, .clo (.func fn) [] [.ptr jc 0], .any, .any, .any, .any, .any, I l.length, I i, .any, .any, .any, .any, .any, .any, .any, .any, .any, .any]) (fun i => Ms i) 0 k (Nat.zero_le _) ?_ ?_ ?_
    · refine Fg.of [] ?_ (by rw [List.append_nil]) (by first | (simp; done) | (simp; omega)) (by first | (simp [scL, V.sc]; done) | (simp [scL, V.sc]; omega)) (hsc _ (by omega))
      conv => whnf
      exact ⟨rfl, rfl, rfl, rfl, rfl⟩
    · intro i _ hi
      have hc := h0 i hi
      have hS := S i
      have hli := hl (i + 1)
      (conv => whnf); repeat ((first | refine SlI.at hS (i := i) (by omega) rfl ?_ | refine ⟨_, _, hc, ?_⟩ | refine ⟨_, hc, ?_⟩ | refine br_d (by omega) ?_ | refine br_nd (by omega) ?_ | refine br_eq (by omega) ?_ | refine br_neq (by omega) ?_ | refine br_ne (by omega) ?_ | refine br_no (bo_eqn (by omega)) ?_ | refine Or.inl ?_ | refine okS_no (by kernel_rfl) ?_ | refine okS_yes (by kernel_rfl) ?_ | refine And_of (by (conv => whnf); (rw [getB_app0]); (conv => whnf)) ?_ | refine setB_app ?_ | refine setB_app0 ?_ | rw [getB_app] | rw [getB_app0] | refine addB_f13 ?_ | refine addB_f12 ?_ | refine addB_f11 ?_ | refine addB_f10 ?_ | refine addB_f9 ?_ | refine addB_f8 ?_ | refine addB_f7 ?_ | refine addB_f6 ?_ | refine addB_f5 ?_ | refine addB_f4 ?_ | refine addB_f3 ?_ | refine addB_f2 ?_ | refine addB_f1 ?_ | refine addB_f0 ?_); conv => whnf)
      refine Fg.of [] ?_ (by rw [List.append_nil]) (by first | (simp; done) | (simp; omega)) (by first | (simp [scL, V.sc]; done) | (simp [scL, V.sc]; omega)) (hsc _ (by omega))
      conv => whnf
      exact ⟨rfl, rfl, rfl, wrapKL (by omega), rfl⟩
    · have hS := S k
      (conv => whnf); repeat ((first | refine SlI.at hS (i := k) (by omega) rfl ?_ | refine ⟨_, _, h1, ?_⟩ | refine ⟨_, h1, ?_⟩ | refine br_d (by omega) ?_ | refine br_nd (by omega) ?_ | refine br_eq (by omega) ?_ | refine br_neq (by omega) ?_ | refine br_ne (by omega) ?_ | refine br_no (bo_eqn (by omega)) ?_ | refine Or.inl ?_ | refine okS_no (by kernel_rfl) ?_ | refine okS_yes (by kernel_rfl) ?_ | refine And_of (by (conv => whnf); (rw [getB_app0]); (conv => whnf)) ?_ | refine setB_app ?_ | refine setB_app0 ?_ | rw [getB_app] | rw [getB_app0] | refine addB_f13 ?_ | refine addB_f12 ?_ | refine addB_f11 ?_ | refine addB_f10 ?_ | refine addB_f9 ?_ | refine addB_f8 ?_ | refine addB_f7 ?_ | refine addB_f6 ?_ | refine addB_f5 ?_ | refine addB_f4 ?_ | refine addB_f3 ?_ | refine addB_f2 ?_ | refine addB_f1 ?_ | refine addB_f0 ?_); conv => whnf)
      exact ⟨rfl, [], by simp⟩
  · rw [show fstI l.length p = -1 from if_neg hk]
    have e : fstN l.length p = l.length := by omega
    rw [e] at h0 ⊢
    clear h1 hk hle e
    (conv => whnf); repeat ((first | refine br_d (by omega) ?_ | refine br_nd (by omega) ?_ | refine br_eq (by omega) ?_ | refine br_neq (by omega) ?_ | refine br_ne (by omega) ?_ | refine br_no (bo_eqn (by omega)) ?_ | refine Or.inl ?_ | refine okS_no (by kernel_rfl) ?_ | refine okS_yes (by kernel_rfl) ?_ | refine And_of (by (conv => whnf); (rw [getB_app0]); (conv => whnf)) ?_ | refine setB_app ?_ | refine setB_app0 ?_ | rw [getB_app] | rw [getB_app0] | refine addB_f13 ?_ | refine addB_f12 ?_ | refine addB_f11 ?_ | refine addB_f10 ?_ | refine addB_f9 ?_ | refine addB_f8 ?_ | refine addB_f7 ?_ | refine addB_f6 ?_ | refine addB_f5 ?_ | refine addB_f4 ?_ | refine addB_f3 ?_ | refine addB_f2 ?_ | refine addB_f1 ?_ | refine addB_f0 ?_); conv => whnf)
    refine loop_to (fun i => [.sl j o l.length, .clo (.func fn) [] [.ptr jc 0], .any, .any, .any, .any, .any, I l.length, I i, .any, .any, .any, .any, .any, .any, .any, .any, .any, .any]) (fun i => Ms i) 0 l.length (Nat.zero_le _) ?_ ?_ ?_
    · refine Fg.of [] ?_ (by rw [List.append_nil]) (by first | (simp; done) | (simp; omega)) (by first | (simp [scL, V.sc]; done) | (simp [scL, V.sc]; omega)) (hsc _ (by omega))
      conv => whnf
      exact ⟨rfl, rfl, rfl, rfl, rfl⟩
    · intro i _ hi
      have hc := h0 i hi
      have hS := S i
      have hli := hl (i + 1)
      (conv => whnf); repeat ((first | refine SlI.at hS (i := i) (by omega) rfl ?_ | refine ⟨_, _, hc, ?_⟩ | refine ⟨_, hc, ?_⟩ | refine br_d (by omega) ?_ | refine br_nd (by omega) ?_ | refine br_eq (by omega) ?_ | refine br_neq (by omega) ?_ | refine br_ne (by omega) ?_ | refine br_no (bo_eqn (by omega)) ?_ | refine Or.inl ?_ | refine okS_no (by kernel_rfl) ?_ | refine okS_yes (by kernel_rfl) ?_ | refine And_of (by (conv => whnf); (rw [getB_app0]); (conv => whnf)) ?_ | refine setB_app ?_ | refine setB_app0 ?_ | rw [getB_app] | rw [getB_app0] | refine addB_f13 ?_ | refine addB_f12 ?_ | refine addB_f11 ?_ | refine addB_f10 ?_ | refine addB_f9 ?_ | refine addB_f8 ?_ | refine addB_f7 ?_ | refine addB_f6 ?_ | refine addB_f5 ?_ | refine addB_f4 ?_ | refine addB_f3 ?_ | refine addB_f2 ?_ | refine addB_f1 ?_ | refine addB_f0 ?_); conv => whnf)
      refine Fg.of [] ?_ (by rw [List.append_nil]) (by first | (simp; done) | (simp; omega)) (by first | (simp [scL, V.sc]; done) | (simp [scL, V.sc]; omega)) (hsc _ (by omega))
      conv => whnf
      exact ⟨rfl, rfl, rfl, wrapKL (by omega), rfl⟩
    · (conv => whnf); repeat ((first | refine br_d (by omega) ?_ | refine br_nd (by omega) ?_ | refine br_eq (by omega) ?_ | refine br_neq (by omega) ?_ | refine br_ne (by omega) ?_ | refine br_no (bo_eqn (by omega)) ?_ | refine Or.inl ?_ | refine okS_no (by kernel_rfl) ?_ | refine okS_yes (by kernel_rfl) ?_ | refine And_of (by (conv => whnf); (rw [getB_app0]); (conv => whnf)) ?_ | refine setB_app ?_ | refine setB_app0 ?_ | rw [getB_app] | rw [getB_app0] | refine addB_f13 ?_ | refine addB_f12 ?_ | refine addB_f11 ?_ | refine addB_f10 ?_ | refine addB_f9 ?_ | refine addB_f8 ?_ | refine addB_f7 ?_ | refine addB_f6 ?_ | refine addB_f5 ?_ | refine addB_f4 ?_ | refine addB_f3 ?_ | refine addB_f2 ?_ | refine addB_f1 ?_ | refine addB_f0 ?_); conv => whnf)
      exact ⟨rfl, [], by simp⟩
theorem floats1_ok {M : List Blk} {j most : Nat} (hj : getB M j = ⟨true, .cells [F most]⟩) (x : Nat) : COk Tryz.prog 3 125 [F x, .ptr j 0] M (Bo (!betw x (fneg (some most)) (some most))) M := by
  refine COk_quiet Tryz.f125 Tryz.func125 (by kernel_rfl) rfl ?_
  (conv => whnf); repeat ((first | rw [hj] | refine ⟨_, _, betw_ok _ _ _ _, ?_⟩ | refine ⟨_, betw_ok _ _ _ _, ?_⟩ | refine br_d (by omega) ?_ | refine br_nd (by omega) ?_ | refine br_eq (by omega) ?_ | refine br_neq (by omega) ?_ | refine br_ne (by omega) ?_ | refine br_no (bo_eqn (by omega)) ?_ | refine Or.inl ?_ | refine okS_no (by kernel_rfl) ?_ | refine okS_yes (by kernel_rfl) ?_ | refine And_of (by (conv => whnf); (rw [getB_app0]); (conv => whnf)) ?_ | refine setB_app ?_ | refine setB_app0 ?_ | rw [getB_app] | rw [getB_app0] | refine addB_f13 ?_ | refine addB_f12 ?_ | refine addB_f11 ?_ | refine addB_f10 ?_ | refine addB_f9 ?_ | refine addB_f8 ?_ | refine addB_f7 ?_ | refine addB_f6 ?_ | refine addB_f5 ?_ | refine addB_f4 ?_ | refine addB_f3 ?_ | refine addB_f2 ?_ | refine addB_f1 ?_ | refine addB_f0 ?_); conv => whnf)
  exact ⟨rfl, [], by simp⟩
set_option maxHeartbeats 0 in
theorem floats_ok {M : List Blk} (hsc : scM M.length M = true) (hng : 3 ≤ M.length) {j o n : Nat} {l : List Nat} (S : SlF M j o l) (hn : l.length = n) (most : Nat) : COk Tryz.prog 3 76 [.sl j o n, F most] M (I (flI l most)) M := by
  have hj := S.lt
  have hx : ∀ i, i < fstN n (badF l most) → COk Tryz.prog 3 125 [F (l.getD i 0), .ptr M.length 0] (M ++ [⟨true, .cells [F most]⟩]) (Bo false) (M ++ [⟨true, .cells [F most]⟩]) := fun i hi => by
    have := floats1_ok (M := M ++ [⟨true, .cells [F most]⟩]) (j := M.length) (most := most) getB_app0 (l.getD i 0)
    rwa [show (!betw (l.getD i 0) (fneg (some most)) (some most)) = false from fstN_no hi] at this
  have hy : fstN n (badF l most) < n → ∀ i, i = fstN n (badF l most) → COk Tryz.prog 3 125 [F (l.getD i 0), .ptr M.length 0] (M ++ [⟨true, .cells [F most]⟩]) (Bo true) (M ++ [⟨true, .cells [F most]⟩]) := fun hk i hi => by
    have := floats1_ok (M := M ++ [⟨true, .cells [F most]⟩]) (j := M.length) (most := most) getB_app0 (l.getD i 0)
    have hy := fstN_yes hk
    rw [← hi] at hy
    rwa [show (!betw (l.getD i 0) (fneg (some most)) (some most)) = true from hy] at this
  have h := idxF_ok (fn := 125) (jc := M.length) (fun _ => M ++ [⟨true, .cells [F most]⟩]) (badF l most) l hn (fun _ _ => scM_app (scM_mono (by simp) _ hsc) (by simp [scM, B.sc, scL, V.sc])) (fun _ => rfl) (by simp; omega) (fun _ => S.app _) (by simp) hx hy
  refine COk_quiet Tryz.f76 Tryz.func76 (by kernel_rfl) rfl ?_
  (conv => whnf); repeat ((first | refine ⟨_, _, h, ?_⟩ | refine ⟨_, h, ?_⟩ | refine br_d (by omega) ?_ | refine br_nd (by omega) ?_ | refine br_eq (by omega) ?_ | refine br_neq (by omega) ?_ | refine br_ne (by omega) ?_ | refine br_no (bo_eqn (by omega)) ?_ | refine Or.inl ?_ | refine okS_no (by kernel_rfl) ?_ | refine okS_yes (by kernel_rfl) ?_ | refine And_of (by (conv => whnf); (rw [getB_app0]); (conv => whnf)) ?_ | refine setB_app ?_ | refine setB_app0 ?_ | rw [getB_app] | rw [getB_app0] | refine addB_f13 ?_ | refine addB_f12 ?_ | refine addB_f11 ?_ | refine addB_f10 ?_ | refine addB_f9 ?_ | refine addB_f8 ?_ | refine addB_f7 ?_ | refine addB_f6 ?_ | refine addB_f5 ?_ | refine addB_f4 ?_ | refine addB_f3 ?_ | refine addB_f2 ?_ | refine addB_f1 ?_ | refine addB_f0 ?_); conv => whnf)
  refine ⟨?_, _, rfl⟩
  rw [flI, hn]
theorem quanta1_ok {M : List Blk} (hsc : scM M.length M = true) {x z : Int} (hz : 0 ≤ z ∧ z ≤ mxW) : COk Tryz.prog 3 127 [.int .i64 x, .ptr M.length 0] (M ++ [⟨true, .cells [.int .i64 z]⟩]) (Bo (decide (x < 0) || decide (x > mxW - z))) (M ++ [⟨true, .cells [.int .i64 (if (decide (x < 0) || decide (x > mxW - z)) = true then z else z + x)]⟩]) := by
  unfold mxW at *
  by_cases h0 : x < 0
  · rw [decide_eq_true h0, Bool.true_or, if_pos rfl]
    refine COk_quiet Tryz.f127 Tryz.func127 (by kernel_rfl) rfl ?_
    (conv => whnf); repeat ((first | refine br_d (by omega) ?_ | refine br_nd (by omega) ?_ | refine br_eq (by omega) ?_ | refine br_neq (by omega) ?_ | refine br_ne (by omega) ?_ | refine br_no (bo_eqn (by omega)) ?_ | refine Or.inl ?_ | refine okS_no (by kernel_rfl) ?_ | refine okS_yes (by kernel_rfl) ?_ | refine And_of (by (conv => whnf); (rw [getB_app0]); (conv => whnf)) ?_ | refine setB_app ?_ | refine setB_app0 ?_ | rw [getB_app] | rw [getB_app0] | refine addB_f13 ?_ | refine addB_f12 ?_ | refine addB_f11 ?_ | refine addB_f10 ?_ | refine addB_f9 ?_ | refine addB_f8 ?_ | refine addB_f7 ?_ | refine addB_f6 ?_ | refine addB_f5 ?_ | refine addB_f4 ?_ | refine addB_f3 ?_ | refine addB_f2 ?_ | refine addB_f1 ?_ | refine addB_f0 ?_); conv => whnf)
    exact ⟨rfl, [], by simp⟩
  rw [decide_eq_false h0, Bool.false_or]
  have hw : IntKind.i64.wrap (4503599627370496 - z) = 4503599627370496 - z := wrap_id (by omega) (by omega)
  by_cases h1 : x > 4503599627370496 - z
  · rw [decide_eq_true h1, if_pos rfl]
    refine COk_quiet Tryz.f127 Tryz.func127 (by kernel_rfl) rfl ?_
    (conv => whnf); repeat ((first | refine br_d (by rw [hw]; exact h1) ?_ | refine br_d (by omega) ?_ | refine br_nd (by omega) ?_ | refine br_eq (by omega) ?_ | refine br_neq (by omega) ?_ | refine br_ne (by omega) ?_ | refine br_no (bo_eqn (by omega)) ?_ | refine Or.inl ?_ | refine okS_no (by kernel_rfl) ?_ | refine okS_yes (by kernel_rfl) ?_ | refine And_of (by (conv => whnf); (rw [getB_app0]); (conv => whnf)) ?_ | refine setB_app ?_ | refine setB_app0 ?_ | rw [getB_app] | rw [getB_app0] | refine addB_f13 ?_ | refine addB_f12 ?_ | refine addB_f11 ?_ | refine addB_f10 ?_ | refine addB_f9 ?_ | refine addB_f8 ?_ | refine addB_f7 ?_ | refine addB_f6 ?_ | refine addB_f5 ?_ | refine addB_f4 ?_ | refine addB_f3 ?_ | refine addB_f2 ?_ | refine addB_f1 ?_ | refine addB_f0 ?_); conv => whnf)
    exact ⟨rfl, [], by simp⟩
  · rw [decide_eq_false h1, if_neg (by decide)]
    refine COk_of_ev Tryz.f127 Tryz.func127 (by kernel_rfl) (by simp) rfl (.inr ?_) ?_
    · exact scM_app (scM_mono (by simp) _ hsc) (by simp [scM, B.sc, scL, V.sc])
    · have hx : IntKind.i64.wrap (z + x) = z + x := wrap_id (by omega) (by omega)
      (conv => whnf); repeat ((first | refine br_nd (by rw [hw]; exact h1) ?_ | refine put_at0 (c' := ⟨true, .cells [.int .i64 (z + x)]⟩) (by rw [hx]) ?_ | refine br_d (by omega) ?_ | refine br_nd (by omega) ?_ | refine br_eq (by omega) ?_ | refine br_neq (by omega) ?_ | refine br_ne (by omega) ?_ | refine br_no (bo_eqn (by omega)) ?_ | refine Or.inl ?_ | refine okS_no (by kernel_rfl) ?_ | refine okS_yes (by kernel_rfl) ?_ | refine And_of (by (conv => whnf); (rw [getB_app0]); (conv => whnf)) ?_ | refine setB_app ?_ | refine setB_app0 ?_ | rw [getB_app] | rw [getB_app0] | refine addB_f13 ?_ | refine addB_f12 ?_ | refine addB_f11 ?_ | refine addB_f10 ?_ | refine addB_f9 ?_ | refine addB_f8 ?_ | refine addB_f7 ?_ | refine addB_f6 ?_ | refine addB_f5 ?_ | refine addB_f4 ?_ | refine addB_f3 ?_ | refine addB_f2 ?_ | refine addB_f1 ?_ | refine addB_f0 ?_); conv => whnf)
      exact ⟨rfl, [], by simp⟩
set_option maxHeartbeats 0 in
theorem quanta_ok' {M : List Blk} (hsc : scM M.length M = true) (hng : 3 ≤ M.length) {j o n : Nat} {l : List Int} (S : SlI M j o l) (hn : l.length = n) {z : Int} (hz : 0 ≤ z ∧ z ≤ mxW) : COk Tryz.prog 3 77 [.sl j o n, .int .i64 z] M (I (quI l z)) M := by
  have hj := S.lt
  have bd : ∀ i, i ≤ fstN n (badQ l z) → 0 ≤ pz l z i ∧ pz l z i ≤ mxW := fun i hi => pz_in hz fun k hk => fstN_no (n := n) (by omega)
  have h := idxI_ok (fn := 127) (jc := M.length) (fun i => M ++ [⟨true, .cells [.int .i64 (pz l z i)]⟩]) (badQ l z) l hn (fun _ _ => scM_app (scM_mono (by simp) _ hsc) (by simp [scM, B.sc, scL, V.sc])) (fun _ => by simp) (by simp; omega) (fun _ => S.app _) (by simp) (fun i hi => by
      have := quanta1_ok hsc (x := l.getD i 0) (bd i (by omega))
      rw [show (decide (l.getD i 0 < 0) || decide (l.getD i 0 > mxW - pz l z i)) = false from fstN_no hi, if_neg (by decide)] at this
      exact this) (fun hk i hi => by
      have := quanta1_ok hsc (x := l.getD i 0) (bd i (by omega))
      have hy := fstN_yes hk
      rw [← hi] at hy
      rw [show (decide (l.getD i 0 < 0) || decide (l.getD i 0 > mxW - pz l z i)) = true from hy, if_pos rfl] at this
      exact this)
  refine COk_quiet Tryz.f77 Tryz.func77 (by kernel_rfl) rfl ?_
  (conv => whnf); repeat ((first | refine ⟨_, _, h, ?_⟩ | refine ⟨_, h, ?_⟩ | refine br_d (by omega) ?_ | refine br_nd (by omega) ?_ | refine br_eq (by omega) ?_ | refine br_neq (by omega) ?_ | refine br_ne (by omega) ?_ | refine br_no (bo_eqn (by omega)) ?_ | refine Or.inl ?_ | refine okS_no (by kernel_rfl) ?_ | refine okS_yes (by kernel_rfl) ?_ | refine And_of (by (conv => whnf); (rw [getB_app0]); (conv => whnf)) ?_ | refine setB_app ?_ | refine setB_app0 ?_ | rw [getB_app] | rw [getB_app0] | refine addB_f13 ?_ | refine addB_f12 ?_ | refine addB_f11 ?_ | refine addB_f10 ?_ | refine addB_f9 ?_ | refine addB_f8 ?_ | refine addB_f7 ?_ | refine addB_f6 ?_ | refine addB_f5 ?_ | refine addB_f4 ?_ | refine addB_f3 ?_ | refine addB_f2 ?_ | refine addB_f1 ?_ | refine addB_f0 ?_); conv => whnf)
  refine ⟨?_, _, rfl⟩
  rw [quI, hn]
/-! ### The reference's -/
theorem rbetw_ok (x : Nat) (lo hi : Option Nat) (m : List Blk) : COk Tryz.prog 3 74 [F x, .fl lo, .fl hi] m (Bo (betw x lo hi)) m := by
  have hd : ((x : Int) != 9223372036854775808) = !decide (x = 9223372036854775808) := by
    by_cases h : x = 9223372036854775808
    · subst h; rfl
    · rw [decide_eq_false h]; exact bne_iff_ne.2 (by omega)
  refine COk_quiet Tryz.f74 Tryz.func74 (by kernel_rfl) rfl ?_
  unfold betw
  conv => whnf
  refine br_intro (fun h1 => ?_) (fun h1 => ?_)
  · conv => whnf
    refine br_intro (fun h2 => ?_) (fun h2 => ?_)
    · (conv => whnf); repeat ((first | refine ⟨_, _, bits_ok _ _, ?_⟩ | refine ⟨_, bits_ok _ _, ?_⟩ | refine br_d (by omega) ?_ | refine br_nd (by omega) ?_ | refine br_eq (by omega) ?_ | refine br_neq (by omega) ?_ | refine br_ne (by omega) ?_ | refine br_no (bo_eqn (by omega)) ?_ | refine Or.inl ?_ | refine okS_no (by kernel_rfl) ?_ | refine okS_yes (by kernel_rfl) ?_ | refine And_of (by (conv => whnf); (rw [getB_app0]); (conv => whnf)) ?_ | refine setB_app ?_ | refine setB_app0 ?_ | rw [getB_app] | rw [getB_app0] | refine addB_f13 ?_ | refine addB_f12 ?_ | refine addB_f11 ?_ | refine addB_f10 ?_ | refine addB_f9 ?_ | refine addB_f8 ?_ | refine addB_f7 ?_ | refine addB_f6 ?_ | refine addB_f5 ?_ | refine addB_f4 ?_ | refine addB_f3 ?_ | refine addB_f2 ?_ | refine addB_f1 ?_ | refine addB_f0 ?_); conv => whnf)
      refine ⟨?_, [], by simp⟩
      rw [show fge (some x) lo = true from h1, show fle (some x) hi = true from h2, ← hd]; rfl
    · conv => whnf
      refine ⟨?_, [], by simp⟩
      rw [show fge (some x) lo = true from h1, show fle (some x) hi = false from h2]; rfl
  · conv => whnf
    refine ⟨?_, [], by simp⟩
    rw [show fge (some x) lo = false from h1]; rfl
end Go.Proofs.YtgoljofmbidkfaaGreatDoor
