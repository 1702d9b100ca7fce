/- Seas that can be, and turned seas, in plain numbers. No condition. -/
import Derived.Test.YtgoljofmbidkfaaGreatDoorTn
import Derived.Test.YtgoljofmbidkfaaGreatDoorSt
namespace Go.Proofs.YtgoljofmbidkfaaGreatDoor
open Go Go.Eng
set_option maxRecDepth 100000
set_option linter.unusedSimpArgs false
set_option linter.unusedVariables false

def mxH : Nat := 4697254411347427328
def mxS : Nat := 4652218415073722368
def mxT : Int := 4611686018427387904
/-- What a check of a sea answers: the place of the first fault, and which it is. -/
def chkF (side : Int) (Be : List Nat) (Wt Tr : List Int) (Sp : List Nat) (sky step : Int) : Int × Int :=
  if ¬ (1 ≤ side ∧ side ≤ 32) then (0, 10) else
  if (Be.length : Int) ≠ cellsI side then (0, 12) else
  if (Wt.length : Int) ≠ cellsI side then (1, 12) else
  if (Tr.length : Int) ≠ cellsI side then (2, 12) else
  if (Sp.length : Int) ≠ 2 * cellsI side then (3, 12) else
  if 0 ≤ flI Be mxH then (flI Be mxH, 13) else
  if sky < 0 ∨ sky > mxW then (0, 17) else
  if 0 ≤ quI Wt sky then (quI Wt sky, 14) else
  if 0 ≤ quI Tr 0 then (quI Tr 0, 15) else
  if 0 ≤ flI Sp mxS then (flI Sp mxS, 16) else
  if step < 0 ∨ step > mxT then (0, 1) else (0, 0)
structure SeaOk (n : Nat) (Be : List Nat) (Wt Tr : List Int) (Sp : List Nat) (sky step : Int) : Prop where
  n1 : 1 ≤ n
  n2 : n ≤ 32
  l0 : Be.length = 6 * (n * n)
  l1 : Wt.length = 6 * (n * n)
  l2 : Tr.length = 6 * (n * n)
  l3 : Sp.length = (edges n).length
  bed : ∀ i, i < Be.length → badF Be mxH i = false
  skb : 0 ≤ sky ∧ sky ≤ mxW
  wat : ∀ i, i < Wt.length → badQ Wt sky i = false
  tra : ∀ i, i < Tr.length → badQ Tr 0 i = false
  spd : ∀ i, i < Sp.length → badF Sp mxS i = false
  stp : 0 ≤ step ∧ step ≤ mxT
theorem cellsI_n {n : Nat} (h1 : 1 ≤ n) (h2 : n ≤ 32) : cellsI (n : Int) = ((6 * (n * n) : Nat) : Int) := by
  rw [cellsI, if_pos ⟨by omega, by omega⟩]; simp
section
variable {Be : List Nat} {Wt Tr : List Int} {Sp : List Nat} {sky step : Int}
theorem SeaOk.chk {n : Nat} (h : SeaOk n Be Wt Tr Sp sky step) : chkF n Be Wt Tr Sp sky step = (0, 0) := by
  have hc := cellsI_n h.n1 h.n2
  have he := edges_len h.n1
  have a0 := h.l0
  have a1 := h.l1
  have a2 := h.l2
  have a3 := h.l3
  have b0 : ¬ 0 ≤ flI Be mxH := by rw [flI, fstI_no h.bed]; decide
  have b1 : ¬ 0 ≤ quI Wt sky := by rw [quI, fstI_no h.wat]; decide
  have b2 : ¬ 0 ≤ quI Tr 0 := by rw [quI, fstI_no h.tra]; decide
  have b3 : ¬ 0 ≤ flI Sp mxS := by rw [flI, fstI_no h.spd]; decide
  have c1 := h.skb
  have c2 := h.stp
  have d1 := h.n1
  have d2 := h.n2
  unfold chkF
  rw [if_neg (by omega), if_neg (by omega), if_neg (by omega), if_neg (by omega), if_neg (by omega), if_neg b0, if_neg (by omega), if_neg b1, if_neg b2, if_neg b3, if_neg (by omega)]
theorem chk_ok {side : Int} (h : (chkF side Be Wt Tr Sp sky step).2 = 0) : ∃ n : Nat, side = n ∧ SeaOk n Be Wt Tr Sp sky step := by
  unfold chkF at h
  by_cases h1 : 1 ≤ side ∧ side ≤ 32
  · obtain ⟨n, rfl⟩ : ∃ n : Nat, side = n := ⟨side.toNat, by omega⟩
    have n1 : 1 ≤ n := by omega
    have n2 : n ≤ 32 := by omega
    have hc := cellsI_n n1 n2
    have he := edges_len n1
    rw [if_neg (by omega)] at h
    split at h; · exact absurd h (by intro h; cases h)
    split at h; · exact absurd h (by intro h; cases h)
    split at h; · exact absurd h (by intro h; cases h)
    split at h; · exact absurd h (by intro h; cases h)
    split at h; · exact absurd h (by intro h; cases h)
    rename_i k0 k1 k2 k3 k4
    split at h; · exact absurd h (by intro h; cases h)
    split at h; · exact absurd h (by intro h; cases h)
    split at h; · exact absurd h (by intro h; cases h)
    split at h; · exact absurd h (by intro h; cases h)
    split at h; · exact absurd h (by intro h; cases h)
    rename_i k5 k6 k7 k8 k9
    exact ⟨n, rfl, n1, n2, by omega, by omega, by omega, by omega, fun i hi => fstI_neg k4 hi, by omega, fun i hi => fstI_neg k6 hi, fun i hi => fstI_neg k7 hi, fun i hi => fstI_neg k8 hi, by omega⟩
  · rw [if_pos h1] at h; exact absurd h (by decide)
end
/-- Numbers of a list that is no worse. -/
theorem badF_no {l : List Nat} {most i : Nat} (h : badF l most i = false) : betw (l.getD i 0) (fneg (some most)) (some most) = true := by
  unfold badF at h; simpa using h
theorem badF_of {l : List Nat} {most i : Nat} (h : betw (l.getD i 0) (fneg (some most)) (some most) = true) : badF l most i = false := by
  unfold badF; rw [h]; rfl
theorem badQ_no {l : List Int} {z : Int} {i : Nat} (h : badQ l z i = false) : 0 ≤ l.getD i 0 ∧ l.getD i 0 + pz l z i ≤ mxW := by
  unfold badQ at h
  rw [Bool.or_eq_false_iff] at h
  have a := of_ndec h.1
  have b := of_ndec h.2
  omega
theorem badQ_of {l : List Int} {z : Int} {i : Nat} (h : 0 ≤ l.getD i 0 ∧ l.getD i 0 + pz l z i ≤ mxW) : badQ l z i = false := by
  unfold badQ
  rw [Bool.or_eq_false_iff]
  exact ⟨decide_eq_false (by omega), decide_eq_false (by omega)⟩
/-- Quanta are well if none is below nothing and all together are no more than there may be. -/
theorem pz_le {l : List Int} {z : Int} (h : ∀ i, i < l.length → 0 ≤ l.getD i 0) : ∀ d k, k + d = l.length → pz l z k ≤ pz l z l.length
  | 0, k, e => by rw [show k = l.length by omega]; exact Int.le_refl _
  | d + 1, k, e => by
    have := pz_le (z := z) h d (k + 1) (by omega)
    have := h k (by omega)
    simp only [pz] at *
    omega
theorem quanta_all {l : List Int} {z : Int} : (∀ i, i < l.length → badQ l z i = false) ↔ (∀ i, i < l.length → 0 ≤ l.getD i 0) ∧ (0 < l.length → pz l z l.length ≤ mxW) := by
  constructor
  · intro h
    refine ⟨fun i hi => (badQ_no (h i hi)).1, fun h0 => ?_⟩
    have := (badQ_no (h (l.length - 1) (by omega))).2
    rw [show l.length = l.length - 1 + 1 by omega]
    simp only [pz]
    omega
  · rintro ⟨h1, h2⟩ i hi
    refine badQ_of ⟨h1 i hi, ?_⟩
    have := pz_le (z := z) h1 (l.length - (i + 1)) (i + 1) (by omega)
    simp only [pz] at this
    have := h2 (by omega)
    omega
/-- All numbers together are the same behind a turn. -/
theorem ps_set {l : List Int} {i : Nat} {x : Int} : ∀ k, i < k → k ≤ l.length → ps (l.set i x) k = ps l k - l.getD i 0 + x
  | 0, h, _ => absurd h (Nat.not_lt_zero i)
  | k + 1, h, hk => by
    have at' : ∀ j, i ≠ j → (l.set i x).getD j 0 = l.getD j 0 := fun j h => by
      rw [List.getD_eq_getElem?_getD, List.getElem?_set, if_neg h, ← List.getD_eq_getElem?_getD]
    simp only [ps]
    by_cases e : i = k
    · subst e
      have low : ∀ k, k ≤ i → ps (l.set i x) k = ps l k := by
        intro k
        induction k with
        | zero => intro _; rfl
        | succ k ih => intro hk; simp only [ps]; rw [ih (by omega), at' k (by omega)]
      rw [low i (Nat.le_refl _), List.getD_eq_getElem?_getD, List.getElem?_set, if_pos rfl, if_pos (by omega)]
      simp only [Option.getD_some]
      omega
    · rw [ps_set k (by omega) (by omega), at' k e]; omega
/-! ### Turned lists -/
def trB {α : Type} (z : α) (n t : Nat) (l : List α) : List α := tab (6 * (n * n)) fun j => l.getD (tC n (inv t) j) z
def trP (n t : Nat) (l : List Nat) : List Nat := tab (edges n).length fun j => trS (tR n t (tE n (inv t) j)) (l.getD (tE n (inv t) j) 0)
theorem inv_aft : ∀ u, u < 24 → ∀ t, t < 24 → aft (inv t) (inv u) = inv (aft u t) := by decide +kernel
section
variable {n t u : Nat} (hn : 1 ≤ n) (ht : t < 24)
theorem trB_len {α : Type} (z : α) (n t : Nat) (l : List α) : (trB z n t l).length = 6 * (n * n) := tab_len _ _
theorem trP_len (n t : Nat) (l : List Nat) : (trP n t l).length = (edges n).length := tab_len _ _
include hn ht
theorem trB_at {α : Type} {z : α} {l : List α} {c : Nat} (hc : c < 6 * (n * n)) : (trB z n t l).getD (tC n t c) z = l.getD c z := by
  unfold trB
  rw [tab_get (tC_lt hn ht hc).1, (tC_inv hn ht hc).2]
theorem trP_at {l : List Nat} {e : Nat} (he : e < (edges n).length) : (trP n t l).getD (tE n t e) 0 = trS (tR n t e) (l.getD e 0) := by
  unfold trP
  rw [tab_get (tE_lt hn ht he), (tE_inv hn ht he).2]
theorem trB_two {α : Type} {z : α} {l : List α} (hu : u < 24) : trB z n u (trB z n t l) = trB z n (aft u t) l := by
  unfold trB
  refine tab_congr fun j hj => ?_
  have i1 := (inv_ok u hu).1
  have i2 := (inv_ok t ht).1
  rw [tab_get (tC_lt hn i1 hj).1, (tC_two hn i2 i1 hj).1, inv_aft u hu t ht]
theorem trP_two {l : List Nat} (hu : u < 24) (hl : l.length = (edges n).length) (hw : ∀ i, i < l.length → l.getD i 0 < 18446744073709551616) (hb : ∀ i, i < l.length → badF l mxS i = false) : trP n u (trP n t l) = trP n (aft u t) l := by
  have ha := aft_lt hu ht
  have hm : mxS ≤ infR := by decide
  refine tab_congr fun j hj => ?_
  have i1 := (inv_ok u hu).1
  have i2 := (inv_ok t ht).1
  have l1 := tE_lt hn i1 hj
  have l2 := tE_lt hn (inv_ok _ ha).1 hj
  have e1 : tE n (inv t) (tE n (inv u) j) = tE n (inv (aft u t)) j := by rw [(tE_two hn i2 i1 hj).1, inv_aft u hu t ht]
  obtain ⟨k1, k2⟩ := tE_two hn hu ht l2
  have e2 : tE n t (tE n (inv (aft u t)) j) = tE n (inv u) j := by rw [← e1]; exact (tE_inv hn ht l1).1
  rw [e2] at k2
  unfold trP
  rw [tab_get l1, e1, ← k2]
  exact trS_two _ _ (hw _ (by omega)) hm (badF_no (hb _ (by omega)))
omit ht in
theorem trB_0 {α : Type} {z : α} {l : List α} (hl : l.length = 6 * (n * n)) : trB z n 0 l = l := by
  have h0 : inv 0 = 0 := by decide
  conv => rhs; rw [tab_list l z, hl]
  refine tab_congr fun j hj => ?_
  rw [h0, (tC_0 hn hj).1]
omit ht in
theorem trP_0 {l : List Nat} (hl : l.length = (edges n).length) : trP n 0 l = l := by
  have h0 : inv 0 = 0 := by decide
  conv => rhs; rw [tab_list l 0, hl]
  refine tab_congr fun j hj => ?_
  rw [h0, (tE_0 hn hj).1, (tE_0 hn hj).2]; rfl
theorem ps_tl {v : Nat → Int} {l : List Int} (hv : ∀ c, c < 6 * (n * n) → l.getD c 0 = v c) : ∀ k, k ≤ 6 * (n * n) → ps (tl 0 n t v k) (6 * (n * n)) = ps l k
  | 0, _ => by
    have : ∀ N k, ps (List.replicate N (0 : Int)) k = 0 := by
      intro N k
      induction k with
      | zero => rfl
      | succ k ih => simp only [ps]; rw [ih, List.getD_eq_getElem?_getD, List.getElem?_replicate]; split <;> rfl
    exact this _ _
  | k + 1, hk => by
    have hz : (tl 0 n t v k).getD (tC n t k) 0 = 0 := by
      have : ∀ i, i ≤ k → (tl 0 n t v i).getD (tC n t k) 0 = 0 := by
        intro i
        induction i with
        | zero => intro _; rw [tl, List.getD_eq_getElem?_getD, List.getElem?_replicate]; split <;> rfl
        | succ i ih =>
          intro hi
          rw [tl, List.getD_eq_getElem?_getD, List.getElem?_set, if_neg (fun e => ?_), ← List.getD_eq_getElem?_getD]
          · exact ih (by omega)
          · have := tC_inj hn ht (show i < 6 * (n * n) by omega) (show k < 6 * (n * n) by omega) e
            omega
      exact this k (Nat.le_refl _)
    rw [tl, ps_set (6 * (n * n)) (tC_lt hn ht (show k < 6 * (n * n) by omega)).1 (by rw [tl_len]; exact Nat.le_refl _), hz, ps_tl hv k (by omega)]
    simp only [ps]
    rw [hv k (by omega)]
    omega
theorem trB_tl {α : Type} {z : α} {l : List α} : trB z n t l = tl z n t (fun c => l.getD c z) (6 * (n * n)) := by
  rw [tab_list (tl z n t (fun c => l.getD c z) (6 * (n * n))) z, tl_len]
  refine tab_congr fun j hj => ?_
  have hi := (inv_ok t ht).1
  have := tl_get (z := z) (v := fun c => l.getD c z) hn ht (6 * (n * n)) (Nat.le_refl _) (tC n (inv t) j) (tC_lt hn hi hj).1
  rw [(tC_inv hn ht hj).1] at this
  exact this.symm
theorem trB_sum {l : List Int} (hl : l.length = 6 * (n * n)) (z : Int) : pz (trB 0 n t l) z (trB 0 n t l).length = pz l z l.length := by
  rw [pz_ps, pz_ps, trB_len, hl, trB_tl hn ht, ps_tl hn ht (fun c _ => rfl) _ (Nat.le_refl _)]
end
/-- A turned sea can be. -/
theorem SeaOk.turn {n t : Nat} {Be : List Nat} {Wt Tr : List Int} {Sp : List Nat} {sky step : Int} (h : SeaOk n Be Wt Tr Sp sky step) (ht : t < 24) (hw : ∀ i, i < Sp.length → Sp.getD i 0 < 18446744073709551616) :
    SeaOk n (trB 0 n t Be) (trB 0 n t Wt) (trB 0 n t Tr) (trP n t Sp) sky step := by
  have hn := h.n1
  have i1 := (inv_ok t ht).1
  have low : ∀ {l : List Int}, l.length = 6 * (n * n) → (∀ i, i < l.length → 0 ≤ l.getD i 0) → ∀ i, i < (trB 0 n t l).length → 0 ≤ (trB 0 n t l).getD i 0 := fun {l} hl hp i hi => by
    rw [trB_len] at hi
    unfold trB
    rw [tab_get hi]
    exact hp _ (by rw [hl]; exact (tC_lt hn i1 hi).1)
  refine ⟨h.n1, h.n2, trB_len _ _ _ _, trB_len _ _ _ _, trB_len _ _ _ _, trP_len _ _ _, fun i hi => ?_, h.skb, ?_, ?_, fun i hi => ?_, h.stp⟩
  · rw [trB_len] at hi
    refine badF_of ?_
    unfold trB
    rw [tab_get hi]
    exact badF_no (h.bed _ (by rw [h.l0]; exact (tC_lt hn i1 hi).1))
  · obtain ⟨a, b⟩ := quanta_all.1 h.wat
    refine quanta_all.2 ⟨low h.l1 a, fun _ => ?_⟩
    rw [trB_sum hn ht h.l1]
    rename_i h0
    rw [trB_len] at h0
    exact b (by rw [h.l1]; exact h0)
  · obtain ⟨a, b⟩ := quanta_all.1 h.tra
    refine quanta_all.2 ⟨low h.l2 a, fun _ => ?_⟩
    rw [trB_sum hn ht h.l2]
    rename_i h0
    rw [trB_len] at h0
    exact b (by rw [h.l2]; exact h0)
  · rw [trP_len] at hi
    have l1 := tE_lt hn i1 hi
    refine badF_of ?_
    unfold trP
    rw [tab_get hi]
    exact (trS_betw _ (hw _ (by rw [h.l3]; exact l1)) (by decide) (badF_no (h.spd _ (by rw [h.l3]; exact l1)))).1
end Go.Proofs.YtgoljofmbidkfaaGreatDoor
