import Derived.Test.YtgoljofmbidkfaaGreatDoorPp
/- Plans: the program's answer and the reference's. No condition. -/
namespace Go.Proofs.YtgoljofmbidkfaaGreatDoor
open Go Go.Eng Ieee
set_option maxRecDepth 100000
set_option linter.unusedSimpArgs false
set_option linter.unusedVariables false

def c1024 : Nat := 4652218415073722368
def dtB (d : Nat) : Bool := !fgt (some d) (some 0) || fgt (some d) (some c1024)
def planE (side : Int) (dt gr dr : Nat) (lim : Int) (n : Nat) (l : List Int) : Int :=
  if cellsI side = 0 then 10 else if (dtB dt || (!betw gr (some 0) (some c1024) || (!betw dr (some 0) (some c1024) || !limV lim))) = true then 11
  else if 1024 < n ∨ 0 ≤ fstI n (badR (cellsI side) l) then 18 else 0
abbrev planW (side : Int) (dt gr dr : Nat) (lim : Int) (riv : Bool) (j n : Nat) : V := .agg [I side, F dt, F gr, F dr, I lim, Bo riv, .sl j 0 n]
def rdtB (d : Nat) : Bool := !betw d (some 0) (some c1024) || feq (some d) (some 0)
theorem dt_pure (c : Nat) (hp : 0 < c) (s : Bool) (R : Nat) : (!decide (rk false 0 < rk s R) || decide (rk false c < rk s R)) = (!(decide (rk false 0 ≤ rk s R) && (decide (rk s R ≤ rk false c) && !decide (s = true ∧ R = 0))) || decide (rk s R = rk false 0)) := by
  unfold rk
  cases s
  · rcases Nat.eq_zero_or_pos R with hz | hz
    · subst hz; simp
    · have hR : ¬ R = 0 := by omega
      by_cases hg : R ≤ c
      · have : ¬ c < R := by omega
        simp [hz, hg, this, hR]
      · have : c < R := by omega
        simp [hz, hg, this, hR]
  · rcases Nat.eq_zero_or_pos R with hz | hz
    · subst hz; simp
    · have : ¬ (0 : Int) ≤ -(R : Int) := by omega
      have : ¬ (0 : Int) < -(R : Int) := by omega
      simp
theorem dt_same (d : Nat) (hd : d < 18446744073709551616) : dtB d = rdtB d := by
  have h1024 : (some c1024 : Option Nat) = some (wd false c1024) := by rw [wd_false]
  have h00 : (some 0 : Option Nat) = some (wd false 0) := by rw [wd_false]
  have hc : c1024 ≤ infR := by decide
  unfold dtB rdtB betw
  rcases nan_or hd with hn | ⟨s, R, hR, rfl⟩
  · have e1 : fgt (some d) (some 0) = false := by unfold fgt; rw [(nan_cmp hn _).1]; rfl
    have e2 : fge (some d) (some 0) = false := by unfold fge; rw [(nan_cmp hn _).1]; rfl
    rw [e1, e2]; rfl
  · rw [h1024, h00, fgt_rk _ _ hR (Nat.zero_le _), fgt_rk _ _ hR hc, fge_rk _ _ hR (Nat.zero_le _), fle_rk _ _ hR hc, feq_rk _ _ hR (Nat.zero_le _)]
    have w : (wd s R = 9223372036854775808) ↔ (s = true ∧ R = 0) := by
      have := infR_lt
      cases s
      · rw [wd_false]; constructor
        · intro h; omega
        · intro h; cases h.1
      · rw [wd_true]; constructor
        · intro h; exact ⟨rfl, by omega⟩
        · intro h; omega
    rw [decide_eq_decide.2 w]
    exact dt_pure c1024 (by decide) s R
theorem contR_ok {M : List Blk} (hsc : scM M.length M = true) {j n : Nat} {l : List Int} (R : RainB M j l n) {fn : FuncId} {jc : Nat} {cells : Int} (hjl : jc < M.length) (hclo : ∀ i, COk Tryz.prog 3 fn [rainV l i, .ptr jc 0] M (Bo (badR cells l i)) M) : COk Tryz.prog 3 70 [.sl j 0 n, .clo (.func fn) [] [.ptr jc 0]] M (Bo (decide (0 ≤ fstI n (badR cells l)))) M := by
  have h := idxR_ok hsc R hjl hclo
  refine COk_quiet Tryz.f70 Tryz.func70 (by kernel_rfl) rfl ?_
  (conv => whnf); repeat (refine ⟨_, _, h, ?_⟩; conv => whnf)
  exact ⟨rfl, [], by simp⟩
section
variable {M : List Blk} (hsc : scM M.length M = true) {j n : Nat} {l : List Int} (R : RainB M j l n) (side : Int) (dt gr dr : Nat) (lim : Int) (riv : Bool)
include hsc R
set_option maxHeartbeats 0 in
theorem Plan_ok : COk Tryz.prog 3 23 [planW side dt gr dr lim riv j n] M (I (planE side dt gr dr lim n l)) M := by
  have hj := R.sl.lt
  have hs := R.s
  have hc := fun m => cells_ok side m
  have hone : allOne [I side, F dt, F gr, F dr, I lim, Bo riv, .sl j 0 n] = true := rfl
  have u2 : Up M (M ++ ([⟨true, .cells [I side, F dt, F gr, F dr, I lim, Bo riv, .sl j 0 n]⟩, ⟨true, .cells [I (cellsI side)]⟩] : List Blk)) := Up.of hsc (by simp [scM, B.sc, scL, V.sc]; omega)
  have R2 : RainB (M ++ ([⟨true, .cells [I side, F dt, F gr, F dr, I lim, Bo riv, .sl j 0 n]⟩, ⟨true, .cells [I (cellsI side)]⟩] : List Blk)) j l n := ⟨getB_in R.b rfl, R.f, R.l, R.s⟩
  have hcon := contR_ok u2.sc R2 (jc := M.length + 1) (by simp) (fun i => plan1_ok (cells := cellsI side) (getB_app (M := M) 1) l i)
  have hbg := fun m => betw_ok gr (some 0) (some c1024) m
  have hbd := fun m => betw_ok dr (some 0) (some c1024) m
  have hli := fun m => limv_ok lim m
  unfold planE
  by_cases h0 : cellsI side = 0
  · rw [if_pos h0]
    rw [h0] at hc
    refine COk_quiet Tryz.f23 Tryz.func23 (by kernel_rfl) rfl ?_
    (conv => whnf); repeat ((first | refine ⟨_, _, hc _, ?_⟩ | refine setB_app ?_ | rw [getB_app] | rw [getB_app0] | refine addB_f1 ?_ | refine addB_f0 ?_); conv => whnf)
    exact ⟨rfl, _, rfl⟩
  rw [if_neg h0]
  unfold dtB
  cases h1 : fgt (some dt) (some 0) with
  | false =>
    refine COk_quiet Tryz.f23 Tryz.func23 (by kernel_rfl) rfl ?_
    (conv => whnf); repeat ((first | refine ⟨_, _, hc _, ?_⟩ | refine br_no (beq_eq_false_iff_ne.2 h0) ?_ | refine br_yes (congrArg not h1) ?_ | refine setB_app ?_ | rw [getB_app] | rw [getB_app0] | refine addB_f1 ?_ | refine addB_f0 ?_); conv => whnf)
    exact ⟨rfl, _, rfl⟩
  | true =>
  cases h2 : fgt (some dt) (some c1024) with
  | true =>
    refine COk_quiet Tryz.f23 Tryz.func23 (by kernel_rfl) rfl ?_
    (conv => whnf); repeat ((first | refine ⟨_, _, hc _, ?_⟩ | refine br_no (beq_eq_false_iff_ne.2 h0) ?_ | refine br_no (congrArg not h1) ?_ | refine br_yes h2 ?_ | refine setB_app ?_ | rw [getB_app] | rw [getB_app0] | refine addB_f1 ?_ | refine addB_f0 ?_); conv => whnf)
    exact ⟨rfl, _, rfl⟩
  | false =>
  cases h3 : betw gr (some 0) (some c1024) with
  | false =>
    rw [h3] at hbg
    refine COk_quiet Tryz.f23 Tryz.func23 (by kernel_rfl) rfl ?_
    (conv => whnf); repeat ((first | refine ⟨_, _, hc _, ?_⟩ | refine br_no (beq_eq_false_iff_ne.2 h0) ?_ | refine br_no (congrArg not h1) ?_ | refine br_no h2 ?_ | refine ⟨_, _, hbg _, ?_⟩ | refine setB_app ?_ | rw [getB_app] | rw [getB_app0] | refine addB_f1 ?_ | refine addB_f0 ?_); conv => whnf)
    exact ⟨rfl, _, rfl⟩
  | true =>
  rw [h3] at hbg
  cases h4 : betw dr (some 0) (some c1024) with
  | false =>
    rw [h4] at hbd
    refine COk_quiet Tryz.f23 Tryz.func23 (by kernel_rfl) rfl ?_
    (conv => whnf); repeat ((first | refine ⟨_, _, hc _, ?_⟩ | refine br_no (beq_eq_false_iff_ne.2 h0) ?_ | refine br_no (congrArg not h1) ?_ | refine br_no h2 ?_ | refine ⟨_, _, hbg _, ?_⟩ | refine ⟨_, _, hbd _, ?_⟩ | refine setB_app ?_ | rw [getB_app] | rw [getB_app0] | refine addB_f1 ?_ | refine addB_f0 ?_); conv => whnf)
    exact ⟨rfl, _, rfl⟩
  | true =>
  rw [h4] at hbd
  cases h5 : limV lim with
  | false =>
    rw [h5] at hli
    refine COk_quiet Tryz.f23 Tryz.func23 (by kernel_rfl) rfl ?_
    (conv => whnf); repeat ((first | refine ⟨_, _, hc _, ?_⟩ | refine br_no (beq_eq_false_iff_ne.2 h0) ?_ | refine br_no (congrArg not h1) ?_ | refine br_no h2 ?_ | refine ⟨_, _, hbg _, ?_⟩ | refine ⟨_, _, hbd _, ?_⟩ | refine ⟨_, _, hli _, ?_⟩ | refine setB_app ?_ | rw [getB_app] | rw [getB_app0] | refine addB_f1 ?_ | refine addB_f0 ?_); conv => whnf)
    exact ⟨rfl, _, rfl⟩
  | true =>
  rw [h5] at hli
  rw [if_neg (show ¬ (!true || false || (!true || (!true || !true))) = true by decide)]
  by_cases h6 : 1024 < n
  · rw [if_pos (Or.inl h6)]
    refine COk_quiet Tryz.f23 Tryz.func23 (by kernel_rfl) rfl ?_
    (conv => whnf); repeat ((first | refine ⟨_, _, hc _, ?_⟩ | refine br_no (beq_eq_false_iff_ne.2 h0) ?_ | refine br_no (congrArg not h1) ?_ | refine br_no h2 ?_ | refine ⟨_, _, hbg _, ?_⟩ | refine ⟨_, _, hbd _, ?_⟩ | refine ⟨_, _, hli _, ?_⟩ | refine br_d (by omega) ?_ | refine setB_app ?_ | rw [getB_app] | rw [getB_app0] | refine addB_f1 ?_ | refine addB_f0 ?_); conv => whnf)
    exact ⟨rfl, _, rfl⟩
  by_cases h7 : 0 ≤ fstI n (badR (cellsI side) l)
  · rw [if_pos (Or.inr h7)]
    rw [decide_eq_true h7] at hcon
    refine COk_quiet Tryz.f23 Tryz.func23 (by kernel_rfl) rfl ?_
    (conv => whnf); repeat ((first | refine ⟨_, _, hc _, ?_⟩ | refine br_no (beq_eq_false_iff_ne.2 h0) ?_ | refine br_no (congrArg not h1) ?_ | refine br_no h2 ?_ | refine ⟨_, _, hbg _, ?_⟩ | refine ⟨_, _, hbd _, ?_⟩ | refine ⟨_, _, hli _, ?_⟩ | refine ⟨_, _, hcon, ?_⟩ | refine br_nd (by omega) ?_ | refine setB_app ?_ | rw [getB_app] | rw [getB_app0] | refine addB_f1 ?_ | refine addB_f0 ?_); conv => whnf)
    exact ⟨rfl, _, rfl⟩
  · rw [if_neg (fun k => k.elim h6 h7)]
    rw [decide_eq_false h7] at hcon
    refine COk_quiet Tryz.f23 Tryz.func23 (by kernel_rfl) rfl ?_
    (conv => whnf); repeat ((first | refine ⟨_, _, hc _, ?_⟩ | refine br_no (beq_eq_false_iff_ne.2 h0) ?_ | refine br_no (congrArg not h1) ?_ | refine br_no h2 ?_ | refine ⟨_, _, hbg _, ?_⟩ | refine ⟨_, _, hbd _, ?_⟩ | refine ⟨_, _, hli _, ?_⟩ | refine ⟨_, _, hcon, ?_⟩ | refine br_nd (by omega) ?_ | refine setB_app ?_ | rw [getB_app] | rw [getB_app0] | refine addB_f1 ?_ | refine addB_f0 ?_); conv => whnf)
    exact ⟨rfl, _, rfl⟩
set_option maxHeartbeats 0 in
theorem rPlan_ok (hdt : dt < 18446744073709551616) : COk Tryz.prog 3 24 [planW side dt gr dr lim riv j n] M (I (planE side dt gr dr lim n l)) M := by
  have hj := R.sl.lt
  have hs := R.s
  have hl := R.l
  have hbt := fun m => rbetw_ok dt (some 0) (some c1024) m
  have hbg := fun m => rbetw_ok gr (some 0) (some c1024) m
  have hbd := fun m => rbetw_ok dr (some 0) (some c1024) m
  have hli := fun m => rlimv_ok lim m
  have hone : allOne [I side, F dt, F gr, F dr, I lim, Bo riv, .sl j 0 n] = true := rfl
  unfold planE
  by_cases h0 : 1 ≤ side ∧ side ≤ 32
  case neg =>
    rw [if_pos (by unfold cellsI; rw [if_neg h0])]
    rcases (show side < 1 ∨ side > 32 by omega) with hx | hx
    all_goals
      refine COk_quiet Tryz.f24 Tryz.func24 (by kernel_rfl) rfl ?_
      (conv => whnf); repeat ((first | refine br_d (by omega) ?_ | refine br_nd (by omega) ?_ | rw [getB_app0] | refine addB_f0 ?_); conv => whnf)
      exact ⟨rfl, _, rfl⟩
  obtain ⟨k, rfl⟩ : ∃ k : Nat, side = k := ⟨side.toNat, by omega⟩
  have k1 : 1 ≤ k := by omega
  have k2 : k ≤ 32 := by omega
  have hsq : k * k ≤ 1024 := Nat.mul_le_mul k2 k2
  have hsq1 : 1 ≤ k * k := Nat.mul_le_mul k1 k1
  have hc := cellsI_n k1 k2
  have hsix : IntKind.i64.wrap (IntKind.i64.wrap (6 * (k : Int)) * k) = ((6 * (k * k) : Nat) : Int) := by
    rw [wrap_id (n := 6 * (k : Int)) (by omega) (by omega), Int.mul_assoc, wrap_id (by omega) (by omega)]
    push_cast
    rfl
  rw [hc, if_neg (by omega), dt_same dt hdt]
  unfold rdtB
  cases h1 : betw dt (some 0) (some c1024) with
  | false =>
    rw [h1] at hbt
    refine COk_quiet Tryz.f24 Tryz.func24 (by kernel_rfl) rfl ?_
    (conv => whnf); repeat ((first | refine ⟨_, _, hli _, ?_⟩ | refine ⟨_, _, hbt _, ?_⟩ | refine br_nd (by omega) ?_ | rw [getB_app0] | refine addB_f0 ?_); conv => whnf)
    exact ⟨rfl, _, rfl⟩
  | true =>
  rw [h1] at hbt
  cases h2 : feq (some dt) (some 0) with
  | true =>
    refine COk_quiet Tryz.f24 Tryz.func24 (by kernel_rfl) rfl ?_
    (conv => whnf); repeat ((first | refine ⟨_, _, hli _, ?_⟩ | refine ⟨_, _, hbt _, ?_⟩ | refine br_yes h2 ?_ | refine br_nd (by omega) ?_ | rw [getB_app0] | refine addB_f0 ?_); conv => whnf)
    exact ⟨rfl, _, rfl⟩
  | false =>
  cases h3 : betw gr (some 0) (some c1024) with
  | false =>
    rw [h3] at hbg
    refine COk_quiet Tryz.f24 Tryz.func24 (by kernel_rfl) rfl ?_
    (conv => whnf); repeat ((first | refine ⟨_, _, hli _, ?_⟩ | refine ⟨_, _, hbt _, ?_⟩ | refine br_no h2 ?_ | refine ⟨_, _, hbg _, ?_⟩ | refine br_nd (by omega) ?_ | rw [getB_app0] | refine addB_f0 ?_); conv => whnf)
    exact ⟨rfl, _, rfl⟩
  | true =>
  rw [h3] at hbg
  cases h4 : betw dr (some 0) (some c1024) with
  | false =>
    rw [h4] at hbd
    refine COk_quiet Tryz.f24 Tryz.func24 (by kernel_rfl) rfl ?_
    (conv => whnf); repeat ((first | refine ⟨_, _, hli _, ?_⟩ | refine ⟨_, _, hbt _, ?_⟩ | refine br_no h2 ?_ | refine ⟨_, _, hbg _, ?_⟩ | refine ⟨_, _, hbd _, ?_⟩ | refine br_nd (by omega) ?_ | rw [getB_app0] | refine addB_f0 ?_); conv => whnf)
    exact ⟨rfl, _, rfl⟩
  | true =>
  rw [h4] at hbd
  cases h5 : limV lim with
  | false =>
    rw [h5] at hli
    refine COk_quiet Tryz.f24 Tryz.func24 (by kernel_rfl) rfl ?_
    (conv => whnf); repeat ((first | refine ⟨_, _, hli _, ?_⟩ | refine ⟨_, _, hbt _, ?_⟩ | refine br_no h2 ?_ | refine ⟨_, _, hbg _, ?_⟩ | refine ⟨_, _, hbd _, ?_⟩ | refine br_nd (by omega) ?_ | rw [getB_app0] | refine addB_f0 ?_); conv => whnf)
    exact ⟨rfl, _, rfl⟩
  | true =>
  rw [h5] at hli
  rw [if_neg (show ¬ (!true || false || (!true || (!true || !true))) = true by decide)]
  by_cases h6 : 1024 < n
  · rw [if_pos (Or.inl h6)]
    refine COk_quiet Tryz.f24 Tryz.func24 (by kernel_rfl) rfl ?_
    (conv => whnf); repeat ((first | refine ⟨_, _, hli _, ?_⟩ | refine ⟨_, _, hbt _, ?_⟩ | refine br_no h2 ?_ | refine ⟨_, _, hbg _, ?_⟩ | refine ⟨_, _, hbd _, ?_⟩ | refine br_d (by omega) ?_ | refine br_nd (by omega) ?_ | rw [getB_app0] | refine addB_f0 ?_); conv => whnf)
    exact ⟨rfl, _, rfl⟩
  have c4 : Tryz.prog.cellsOf 111 = 4 := by kernel_rfl
  have E0 : ∀ k : Nat, 0 + (k : Int).toNat * Tryz.prog.cellsOf 111 = 0 + 4 * k * 1 := fun k => by rw [c4, Int.toNat_natCast]; omega
  have E1 : ∀ k : Nat, 0 + (k : Int).toNat * Tryz.prog.cellsOf 111 + 1 = 0 + (4 * k + 1) * 1 := fun k => by rw [c4, Int.toNat_natCast]; omega
  have E2 : ∀ k : Nat, 0 + (k : Int).toNat * Tryz.prog.cellsOf 111 + 1 + 1 = 0 + (4 * k + 2) * 1 := fun k => by rw [c4, Int.toNat_natCast]; omega
  have E3 : ∀ k : Nat, 0 + (k : Int).toNat * Tryz.prog.cellsOf 111 + 1 + 1 + 1 = 0 + (4 * k + 3) * 1 := fun k => by rw [c4, Int.toNat_natCast]; omega
  have S : SlI (M ++ ([⟨true, .cells [I k, F dt, F gr, F dr, I lim, Bo riv, .sl j 0 n]⟩] : List Blk)) j 0 l := R.sl.app _
  have u1 : Up M (M ++ ([⟨true, .cells [I k, F dt, F gr, F dr, I lim, Bo riv, .sl j 0 n]⟩] : List Blk)) := Up.of hsc (by simp [scM, B.sc, scL, V.sc]; omega)
  have hrr := fun i m => rrain_ok ((6 * (k * k) : Nat) : Int) (l.getD (4 * i) 0) (l.getD (4 * i + 1) 0) (l.getD (4 * i + 2) 0) (l.getD (4 * i + 3) 0) m
  have hb : ∀ i, rainB ((6 * (k * k) : Nat) : Int) (l.getD (4 * i) 0) (l.getD (4 * i + 1) 0) (l.getD (4 * i + 2) 0) (l.getD (4 * i + 3) 0) = !badR ((6 * (k * k) : Nat) : Int) l i := fun i => by unfold badR; rw [Bool.not_not]
  have hle := fstN_le n (badR ((6 * (k * k) : Nat) : Int) l)
  refine COk_quiet Tryz.f24 Tryz.func24 (by kernel_rfl) rfl ?_
  (conv => whnf); repeat ((first | refine ⟨_, _, hli _, ?_⟩ | refine ⟨_, _, hbt _, ?_⟩ | refine br_no h2 ?_ | refine ⟨_, _, hbg _, ?_⟩ | refine ⟨_, _, hbd _, ?_⟩ | refine br_nd (by omega) ?_ | rw [getB_app0] | refine addB_f0 ?_); conv => whnf)
  by_cases hk : fstN n (badR ((6 * (k * k) : Nat) : Int) l) < n
  · rw [if_pos (Or.inr (fstI_ge.2 hk))]
    have hy := fstN_yes hk
    have h0 : ∀ i, i < fstN n (badR ((6 * (k * k) : Nat) : Int) l) → badR ((6 * (k * k) : Nat) : Int) l i = false := fun i hi => fstN_no hi
    generalize fstN n (badR ((6 * (k * k) : Nat) : Int) l) = q at *
    refine loop_to (fun i => [.any, .ptr M.length 0, .any, .any, I i, .any, .any, .any, .any, .any, .any, .any, .any, .any, .any, .any, .any, .any, .any, .any, .any, .any, .any, .any, .any, .any, .any, .any, .any, .any, .any, .any, .any, .any, .any, .any, .any, .any, .any, .any, .any, .any, .any, .any, .any, .any, .any, .any, .any, .any, .any, .any, .any, .any, .any, .any, .any, .any, .any, .any, .any, .any, .any, .any, .any, .any, .any]) (fun i => M ++ [⟨true, .cells [I k, F dt, F gr, F dr, I lim, Bo riv, .sl j 0 n]⟩]) 0 q (Nat.zero_le _) ?_ ?_ ?_
    · refine Fg.of [] ?_ (by first | (rw [List.append_nil]; done) | (rw [List.append_nil]; rfl)) (by first | (simp; done) | (simp; omega)) (by first | (simp [scL, V.sc]; done) | (simp [scL, V.sc]; omega)) u1.sc
      conv => whnf
      exact ⟨rfl, rfl, rfl⟩
    · intro i _ hi
      have hr := hrr i
      rw [hb i, h0 i hi] at hr
      (conv => whnf); repeat ((first | rw [hsix] | refine SlI.at S (i := 4 * i) (by omega) (E0 i) ?_ | refine SlI.at S (i := 4 * i + 1) (by omega) (E1 i) ?_ | refine SlI.at S (i := 4 * i + 2) (by omega) (E2 i) ?_ | refine SlI.at S (i := 4 * i + 3) (by omega) (E3 i) ?_ | refine ⟨_, hr _, ?_⟩ | refine br_d (by omega) ?_ | rw [getB_app0]); conv => whnf)
      refine Fg.of [] ?_ (by first | (rw [List.append_nil]; done) | (rw [List.append_nil]; rfl)) (by first | (simp; done) | (simp; omega)) (by first | (simp [scL, V.sc]; done) | (simp [scL, V.sc]; omega)) u1.sc
      conv => whnf
      exact ⟨rfl, wrapKL (by omega), rfl⟩
    · have hr := hrr q
      rw [hb q, hy] at hr
      (conv => whnf); repeat ((first | rw [hsix] | refine SlI.at S (i := 4 * q) (by omega) (E0 q) ?_ | refine SlI.at S (i := 4 * q + 1) (by omega) (E1 q) ?_ | refine SlI.at S (i := 4 * q + 2) (by omega) (E2 q) ?_ | refine SlI.at S (i := 4 * q + 3) (by omega) (E3 q) ?_ | refine ⟨_, hr _, ?_⟩ | refine br_d (by omega) ?_ | rw [getB_app0]); conv => whnf)
      exact ⟨rfl, _, rfl⟩
  · rw [if_neg (fun k => k.elim h6 (fun h => hk (fstI_ge.1 h)))]
    have h0 : ∀ i, i < n → badR ((6 * (k * k) : Nat) : Int) l i = false := fun i hi => fstN_end hk hi
    refine loop_to (fun i => [.any, .ptr M.length 0, .any, .any, I i, .any, .any, .any, .any, .any, .any, .any, .any, .any, .any, .any, .any, .any, .any, .any, .any, .any, .any, .any, .any, .any, .any, .any, .any, .any, .any, .any, .any, .any, .any, .any, .any, .any, .any, .any, .any, .any, .any, .any, .any, .any, .any, .any, .any, .any, .any, .any, .any, .any, .any, .any, .any, .any, .any, .any, .any, .any, .any, .any, .any, .any, .any]) (fun i => M ++ [⟨true, .cells [I k, F dt, F gr, F dr, I lim, Bo riv, .sl j 0 n]⟩]) 0 n (Nat.zero_le _) ?_ ?_ ?_
    · refine Fg.of [] ?_ (by first | (rw [List.append_nil]; done) | (rw [List.append_nil]; rfl)) (by first | (simp; done) | (simp; omega)) (by first | (simp [scL, V.sc]; done) | (simp [scL, V.sc]; omega)) u1.sc
      conv => whnf
      exact ⟨rfl, rfl, rfl⟩
    · intro i _ hi
      have hr := hrr i
      rw [hb i, h0 i hi] at hr
      (conv => whnf); repeat ((first | rw [hsix] | refine SlI.at S (i := 4 * i) (by omega) (E0 i) ?_ | refine SlI.at S (i := 4 * i + 1) (by omega) (E1 i) ?_ | refine SlI.at S (i := 4 * i + 2) (by omega) (E2 i) ?_ | refine SlI.at S (i := 4 * i + 3) (by omega) (E3 i) ?_ | refine ⟨_, hr _, ?_⟩ | refine br_d (by omega) ?_ | rw [getB_app0]); conv => whnf)
      refine Fg.of [] ?_ (by first | (rw [List.append_nil]; done) | (rw [List.append_nil]; rfl)) (by first | (simp; done) | (simp; omega)) (by first | (simp [scL, V.sc]; done) | (simp [scL, V.sc]; omega)) u1.sc
      conv => whnf
      exact ⟨rfl, wrapKL (by omega), rfl⟩
    · (conv => whnf); repeat ((first | refine br_nd (by omega) ?_ | rw [getB_app0]); conv => whnf)
      exact ⟨rfl, _, rfl⟩
end
section
variable {M : List Blk} (hm : Top M) (hsc : scM M.length M = true) {j n : Nat} {l : List Int} (R : RainB M j l n) (side : Int) (dt gr dr : Nat) (lim : Int) (riv : Bool)
include hm hsc R
set_option maxHeartbeats 0 in
theorem plans20_ok (hdt : dt < 18446744073709551616) : COk Tryz.prog 3 5 [planW side dt gr dr lim riv j n] M (Bo true) M := by
  have hj := R.sl.lt
  have hs := R.s
  have hone : allOne [I side, F dt, F gr, F dr, I lim, Bo riv, .sl j 0 n] = true := rfl
  have u1 : Up M (M ++ ([⟨true, .cells [I side, F dt, F gr, F dr, I lim, Bo riv, .sl j 0 n]⟩] : List Blk)) := Up.of hsc (by simp [scM, B.sc, scL, V.sc]; omega)
  have haw := awake20_ok (hm.up u1) u1.sc
  have R1 : RainB (M ++ ([⟨true, .cells [I side, F dt, F gr, F dr, I lim, Bo riv, .sl j 0 n]⟩] : List Blk)) j l n := ⟨getB_in R.b rfl, R.f, R.l, R.s⟩
  have hA := Plan_ok u1.sc R1 side dt gr dr lim riv
  have hB := rPlan_ok u1.sc R1 side dt gr dr lim riv hdt
  by_cases hb : 131072 < n
  · refine COk_quiet Tryz.f5 Tryz.func5 (by kernel_rfl) rfl ?_
    (conv => whnf); repeat ((first | refine ⟨_, _, haw, ?_⟩ | refine br_d (by omega) ?_ | rw [getB_app0] | refine addB_f0 ?_); conv => whnf)
    exact ⟨rfl, _, rfl⟩
  · refine COk_quiet Tryz.f5 Tryz.func5 (by kernel_rfl) rfl ?_
    (conv => whnf); repeat ((first | refine ⟨_, _, haw, ?_⟩ | refine ⟨_, hA, ?_⟩ | refine ⟨_, hB, ?_⟩ | refine br_nd (by omega) ?_ | rw [getB_app0] | refine addB_f0 ?_); conv => whnf)
    refine ⟨?_, _, rfl⟩
    exact congrArg V.bool (beq_self_eq_true _)
end
end Go.Proofs.YtgoljofmbidkfaaGreatDoor
