import Derived.Test.YtgoljofmbidkfaaGreatDoorR7
import Derived.Test.YtgoljofmbidkfaaGreatDoorR6
/- The reference's points, lengths and areas. No condition. -/
namespace Go.Proofs.YtgoljofmbidkfaaGreatDoor
open Go Go.Eng Ieee
set_option maxRecDepth 100000
set_option linter.unusedSimpArgs false
set_option linter.unusedVariables false

theorem fneg_lt {o : Option Nat} (hb : Wd o) : Wd (fneg o) := by
  cases o with
  | none => exact fun b h => nomatch h
  | some u =>
    have hi := infR_eq
    refine wdF ?_
    rcases nan_or (hb u rfl) with h | ⟨s, R, hR, rfl⟩
    · obtain ⟨t, R, hR, rfl⟩ : ∃ t R, R < 2 ^ 63 ∧ u = wd t R := by
        have h1 := h.1
        by_cases h1 : 9223372036854775808 ≤ u
        · exact ⟨true, u - 9223372036854775808, by omega, by rw [wd_true]; omega⟩
        · exact ⟨false, u, by omega, rfl⟩
      rw [neg_wd t hR]
      cases t
      · show wd true R < _; rw [wd_true]; omega
      · show wd false R < _; rw [wd_false]; omega
    · rw [neg_wd s (by omega)]
      cases s
      · show wd true R < _; rw [wd_true]; omega
      · show wd false R < _; rw [wd_false]; omega
theorem ralong_eq (w a : Int) (h : w = a) (x : Option Nat) (m : List Blk) : COk Tryz.prog 3 202 [I w, I a, .fl x] m (.tup [.fl x, Bo true]) m := by
  subst h
  refine COk_quiet Tryz.f202 Tryz.func202 (by kernel_rfl) rfl ?_
  (conv => whnf); repeat (refine br_yes (beq_iff_eq.2 rfl) ?_; conv => whnf)
  exact ⟨rfl, [], by simp⟩
theorem ralong_ng (w a : Int) (h1 : (w == a) = false) (h2 : (w == IntKind.i64.wrap (0 - a)) = true) (x : Option Nat) (m : List Blk) : COk Tryz.prog 3 202 [I w, I a, .fl x] m (.tup [.fl (fneg x), Bo true]) m := by
  refine COk_quiet Tryz.f202 Tryz.func202 (by kernel_rfl) rfl ?_
  (conv => whnf); repeat ((first | refine br_no h1 ?_ | refine br_yes h2 ?_); conv => whnf)
  exact ⟨rfl, [], by simp⟩
theorem ralong_no (w a : Int) (h1 : (w == a) = false) (h2 : (w == IntKind.i64.wrap (0 - a)) = false) (x : Option Nat) (m : List Blk) : COk Tryz.prog 3 202 [I w, I a, .fl x] m (.tup [F 0, Bo false]) m := by
  refine COk_quiet Tryz.f202 Tryz.func202 (by kernel_rfl) rfl ?_
  (conv => whnf); repeat ((first | refine br_no h1 ?_ | refine br_no h2 ?_); conv => whnf)
  exact ⟨rfl, [], by simp⟩
def tabC : Nat → Int | 0 => 1 | 1 => 2 | 2 => -1 | 3 => -2 | 4 => 3 | _ => -3
def tabR : Nat → Int | 0 => 2 | 1 => -1 | 2 => -2 | 3 => 1 | 4 => 2 | _ => 2
def tabU : Nat → Int | 0 => 3 | 1 => 3 | 2 => 3 | 3 => 3 | 4 => -1 | _ => 1
theorem r8frame_ok (f : Nat) (hf : f < 6) (x : List Blk) : COk Tryz.prog 3 201 [I f] (GG x) (.tup [I (tabC f), I (tabR f), I (tabU f)]) (GG x) := by
  refine lift ?_ rfl x
  match f, hf with
  | 0, _ | 1, _ | 2, _ | 3, _ | 4, _ | 5, _ =>
    refine COk_quiet Tryz.f201 Tryz.func201 (by kernel_rfl) rfl ?_
    (conv => whnf); repeat ((first | refine br_d (by omega) ?_ | refine br_nd (by omega) ?_ | refine br_eq (by omega) ?_ | refine br_neq (by omega) ?_ | refine br_ne (by omega) ?_ | refine br_no (bo_eqn (by omega)) ?_ | refine Or.inl ?_ | refine okS_no (by kernel_rfl) ?_ | refine okS_yes (by kernel_rfl) ?_ | refine And_of (by (conv => whnf); (rw [getB_app0]); (conv => whnf)) ?_ | refine setB_app ?_ | refine setB_app0 ?_ | rw [getB_app] | rw [getB_app0] | refine addB_f13 ?_ | refine addB_f12 ?_ | refine addB_f11 ?_ | refine addB_f10 ?_ | refine addB_f9 ?_ | refine addB_f8 ?_ | refine addB_f7 ?_ | refine addB_f6 ?_ | refine addB_f5 ?_ | refine addB_f4 ?_ | refine addB_f3 ?_ | refine addB_f2 ?_ | refine addB_f1 ?_ | refine addB_f0 ?_); conv => whnf)
    exact ⟨rfl, _, rfl⟩
theorem rcomp1_ok (f : Nat) (hf : f < 6) {p q : Option Nat} (hp : Wd p) (hq : Wd q) (x : List Blk) : COk Tryz.prog 3 191 [I f, I 1, .fl p, .fl q] (GG x) (F (pointV f p q).x) (GG x) := by
  refine lift ?_ rfl x
  match f, hf with
  | 0, _ | 1, _ | 2, _ | 3, _ | 4, _ | 5, _ =>
    refine COk_quiet Tryz.f191 Tryz.func191 (by kernel_rfl) rfl ?_
    (conv => whnf); repeat ((first | refine ⟨_, _, r8frame_ok _ (by decide) _, ?_⟩ | refine ⟨_, _, ralong_eq _ _ rfl _ _, ?_⟩ | refine ⟨_, _, ralong_ng _ _ rfl rfl _ _, ?_⟩ | refine ⟨_, _, ralong_no _ _ rfl rfl _ _, ?_⟩ | refine ⟨_, _, rcanon_ok (by first | exact hp | exact hq | exact fneg_lt hp | exact fneg_lt hq | exact wdF (by decide) | exact fneg_lt (wdF (by decide))) _, ?_⟩); conv => whnf)
    exact ⟨rfl, _, rfl⟩
theorem rcomp2_ok (f : Nat) (hf : f < 6) {p q : Option Nat} (hp : Wd p) (hq : Wd q) (x : List Blk) : COk Tryz.prog 3 191 [I f, I 2, .fl p, .fl q] (GG x) (F (pointV f p q).y) (GG x) := by
  refine lift ?_ rfl x
  match f, hf with
  | 0, _ | 1, _ | 2, _ | 3, _ | 4, _ | 5, _ =>
    refine COk_quiet Tryz.f191 Tryz.func191 (by kernel_rfl) rfl ?_
    (conv => whnf); repeat ((first | refine ⟨_, _, r8frame_ok _ (by decide) _, ?_⟩ | refine ⟨_, _, ralong_eq _ _ rfl _ _, ?_⟩ | refine ⟨_, _, ralong_ng _ _ rfl rfl _ _, ?_⟩ | refine ⟨_, _, ralong_no _ _ rfl rfl _ _, ?_⟩ | refine ⟨_, _, rcanon_ok (by first | exact hp | exact hq | exact fneg_lt hp | exact fneg_lt hq | exact wdF (by decide) | exact fneg_lt (wdF (by decide))) _, ?_⟩); conv => whnf)
    exact ⟨rfl, _, rfl⟩
theorem rcomp3_ok (f : Nat) (hf : f < 6) {p q : Option Nat} (hp : Wd p) (hq : Wd q) (x : List Blk) : COk Tryz.prog 3 191 [I f, I 3, .fl p, .fl q] (GG x) (F (pointV f p q).z) (GG x) := by
  refine lift ?_ rfl x
  match f, hf with
  | 0, _ | 1, _ | 2, _ | 3, _ | 4, _ | 5, _ =>
    refine COk_quiet Tryz.f191 Tryz.func191 (by kernel_rfl) rfl ?_
    (conv => whnf); repeat ((first | refine ⟨_, _, r8frame_ok _ (by decide) _, ?_⟩ | refine ⟨_, _, ralong_eq _ _ rfl _ _, ?_⟩ | refine ⟨_, _, ralong_ng _ _ rfl rfl _ _, ?_⟩ | refine ⟨_, _, ralong_no _ _ rfl rfl _ _, ?_⟩ | refine ⟨_, _, rcanon_ok (by first | exact hp | exact hq | exact fneg_lt hp | exact fneg_lt hq | exact wdF (by decide) | exact fneg_lt (wdF (by decide))) _, ?_⟩); conv => whnf)
    exact ⟨rfl, _, rfl⟩
theorem rpoint_ok (f : Nat) (hf : f < 6) {p q : Option Nat} (hp : Wd p) (hq : Wd q) (x : List Blk) : COk Tryz.prog 3 172 [I f, .fl p, .fl q] (GG x) (pointF f p q).v (GG x) := by
  refine lift ?_ rfl x
  refine COk_quiet Tryz.f172 Tryz.func172 (by kernel_rfl) rfl ?_
  (conv => whnf); repeat ((first | refine ⟨_, _, rcomp1_ok f hf hp hq _, ?_⟩ | refine ⟨_, _, rcomp2_ok f hf hp hq _, ?_⟩ | refine ⟨_, _, rcomp3_ok f hf hp hq _, ?_⟩ | refine ⟨_, _, runit_ok (pointV f p q) _, ?_⟩); conv => whnf)
  exact ⟨rfl, _, rfl⟩
end Go.Proofs.YtgoljofmbidkfaaGreatDoor
/- The reference's Clamp, by a float's bits. No condition. -/
namespace Go.Proofs.YtgoljofmbidkfaaGreatDoor
open Go Go.Eng Ieee
set_option maxRecDepth 100000
set_option linter.unusedSimpArgs false
set_option linter.unusedVariables false

abbrev fldI (b : Nat) : Int := IntKind.i64.wrap ((((b : Nat) : Int).fdiv (2 ^ min (Int.toNat 52) IntKind.u64.bits)).tmod 2048)
abbrev sgB (b : Nat) : Bool := ((b : Nat) : Int).fdiv (2 ^ min (Int.toNat 63) IntKind.u64.bits) == 1
abbrev mI (b : Nat) : Int := ((b : Nat) : Int).tmod 4503599627370496
set_option maxHeartbeats 0 in
theorem parts_inf (b : Nat) (h1 : (fldI b == 2047) = true) (h2 : (mI b == 0) = true) (m : List Blk) : COk Tryz.prog 3 155 [F b] m (.tup [Bo (sgB b), U 0, I 0, I 1]) m := by
  refine COk_quiet Tryz.f155 Tryz.func155 (by kernel_rfl) rfl ?_
  (conv => whnf); repeat ((first | refine ⟨_, _, bits_ok b _, ?_⟩ | refine br_yes h1 ?_ | refine br_yes h2 ?_); conv => whnf)
  exact ⟨rfl, [], by simp⟩
set_option maxHeartbeats 0 in
theorem parts_nan (b : Nat) (h1 : (fldI b == 2047) = true) (h2 : (mI b == 0) = false) (m : List Blk) : COk Tryz.prog 3 155 [F b] m (.tup [Bo (sgB b), U 0, I 0, I 2]) m := by
  refine COk_quiet Tryz.f155 Tryz.func155 (by kernel_rfl) rfl ?_
  (conv => whnf); repeat ((first | refine ⟨_, _, bits_ok b _, ?_⟩ | refine br_yes h1 ?_ | refine br_no h2 ?_); conv => whnf)
  exact ⟨rfl, [], by simp⟩
set_option maxHeartbeats 0 in
theorem parts_sub (b : Nat) (h1 : (fldI b == 2047) = false) (h2 : (fldI b == 0) = true) (m : List Blk) : COk Tryz.prog 3 155 [F b] m (.tup [Bo (sgB b), U (mI b), I (-1074), I 0]) m := by
  refine COk_quiet Tryz.f155 Tryz.func155 (by kernel_rfl) rfl ?_
  (conv => whnf); repeat ((first | refine ⟨_, _, bits_ok b _, ?_⟩ | refine br_no h1 ?_ | refine br_yes h2 ?_); conv => whnf)
  exact ⟨rfl, [], by simp⟩
set_option maxHeartbeats 0 in
theorem parts_norm (b : Nat) (h1 : (fldI b == 2047) = false) (h2 : (fldI b == 0) = false) (m : List Blk) : COk Tryz.prog 3 155 [F b] m (.tup [Bo (sgB b), U (IntKind.u64.wrap (mI b + 4503599627370496)), I (IntKind.i64.wrap (fldI b - 1075)), I 0]) m := by
  refine COk_quiet Tryz.f155 Tryz.func155 (by kernel_rfl) rfl ?_
  (conv => whnf); repeat ((first | refine ⟨_, _, bits_ok b _, ?_⟩ | refine br_no h1 ?_ | refine br_no h2 ?_); conv => whnf)
  exact ⟨rfl, [], by simp⟩
set_option maxHeartbeats 0 in
theorem down_far (K : Int) (s : Int) (h : decide (s > 63) = true) (m : List Blk) : COk Tryz.prog 3 170 [U K, I s] m (.tup [U 0, I (if K == 0 then 0 else 1)]) m := by
  by_cases hK : (K == 0) = true
  · simp only [hK, if_true]
    refine COk_quiet Tryz.f170 Tryz.func170 (by kernel_rfl) rfl ?_
    (conv => whnf); repeat ((first | refine br_yes h ?_ | refine br_yes hK ?_); conv => whnf)
    exact ⟨rfl, [], by simp⟩
  · have hK := Bool.eq_false_iff.2 hK
    rw [if_neg (by rw [hK]; decide)]
    refine COk_quiet Tryz.f170 Tryz.func170 (by kernel_rfl) rfl ?_
    (conv => whnf); repeat ((first | refine br_yes h ?_ | refine br_no hK ?_); conv => whnf)
    exact ⟨rfl, [], by simp⟩
abbrev qI (K s : Int) : Int := K.fdiv (2 ^ min (IntKind.u64.wrap s).toNat IntKind.u64.bits)
abbrev rI (K s : Int) : Int := IntKind.u64.wrap (K - IntKind.u64.wrap (qI K s * 2 ^ min (IntKind.u64.wrap s).toNat IntKind.u64.bits))
abbrev hI (s : Int) : Int := IntKind.u64.wrap (1 * 2 ^ min (IntKind.u64.wrap (IntKind.i64.wrap (s - 1))).toNat IntKind.u64.bits)
theorem u64_nn (s : Int) : decide (0 ≤ IntKind.u64.wrap s) = true := decide_eq_true (by unfold IntKind.wrap; exact Int.emod_nonneg _ (by decide))
set_option maxHeartbeats 0 in
theorem down_near (K : Int) (s : Int) (h : decide (s > 63) = false) (m : List Blk) : COk Tryz.prog 3 170 [U K, I s] m (.tup [U (qI K s), I (if (rI K s == 0) = true then 0 else if decide (rI K s < hI s) = true then 1 else if (rI K s == hI s) = true then 2 else 3)]) m := by
  by_cases h0 : (rI K s == 0) = true
  · simp only [h0, if_true]
    refine COk_quiet Tryz.f170 Tryz.func170 (by kernel_rfl) rfl ?_
    (conv => whnf); repeat ((first | refine br_no h ?_ | refine br_yes (u64_nn _) ?_ | refine br_yes h0 ?_); conv => whnf)
    exact ⟨rfl, [], by simp⟩
  have h0' := Bool.eq_false_iff.2 h0
  by_cases h1 : decide (rI K s < hI s) = true
  · rw [if_neg h0, if_pos h1]
    refine COk_quiet Tryz.f170 Tryz.func170 (by kernel_rfl) rfl ?_
    (conv => whnf); repeat ((first | refine br_no h ?_ | refine br_yes (u64_nn _) ?_ | refine br_no h0' ?_ | refine br_yes h1 ?_); conv => whnf)
    exact ⟨rfl, [], by simp⟩
  have h1' := Bool.eq_false_iff.2 h1
  by_cases h2 : (rI K s == hI s) = true
  · rw [if_neg h0, if_neg h1, if_pos h2]
    refine COk_quiet Tryz.f170 Tryz.func170 (by kernel_rfl) rfl ?_
    (conv => whnf); repeat ((first | refine br_no h ?_ | refine br_yes (u64_nn _) ?_ | refine br_no h0' ?_ | refine br_no h1' ?_ | refine br_yes h2 ?_); conv => whnf)
    exact ⟨rfl, [], by simp⟩
  have h2' := Bool.eq_false_iff.2 h2
  rw [if_neg h0, if_neg h1, if_neg h2]
  refine COk_quiet Tryz.f170 Tryz.func170 (by kernel_rfl) rfl ?_
  (conv => whnf); repeat ((first | refine br_no h ?_ | refine br_yes (u64_nn _) ?_ | refine br_no h0' ?_ | refine br_no h1' ?_ | refine br_no h2' ?_); conv => whnf)
  exact ⟨rfl, [], by simp⟩
abbrev gI (s : Int) : Int := (9223372036854775808 : Int).fdiv (2 ^ min (IntKind.u64.wrap s).toNat IntKind.u64.bits)
set_option maxHeartbeats 0 in
theorem great_ok (K : Int) (s : Int) (m : List Blk) : COk Tryz.prog 3 157 [U K, I s] m (Bo (K != 0 && (decide (s > 11) || decide (K > gI s)))) m := by
  by_cases h0 : (K != 0) = true
  · by_cases h1 : decide (s > 11) = true
    · rw [h0, h1]
      refine COk_quiet Tryz.f157 Tryz.func157 (by kernel_rfl) rfl ?_
      (conv => whnf); repeat ((first | refine br_yes h0 ?_ | refine br_yes h1 ?_); conv => whnf)
      exact ⟨rfl, [], by simp⟩
    · have h1' := Bool.eq_false_iff.2 h1
      rw [h0, h1', Bool.true_and, Bool.false_or]
      refine COk_quiet Tryz.f157 Tryz.func157 (by kernel_rfl) rfl ?_
      (conv => whnf); repeat ((first | refine br_yes h0 ?_ | refine br_no h1' ?_ | refine br_yes (u64_nn _) ?_); conv => whnf)
      exact ⟨rfl, [], by simp⟩
  · have h0' := Bool.eq_false_iff.2 h0
    rw [h0', Bool.false_and]
    refine COk_quiet Tryz.f157 Tryz.func157 (by kernel_rfl) rfl ?_
    (conv => whnf); repeat (refine br_no h0' ?_; conv => whnf)
    exact ⟨rfl, [], by simp⟩
abbrev restI (K s : Int) : Int := if (rI K s == 0) = true then 0 else if decide (rI K s < hI s) = true then 1 else if (rI K s == hI s) = true then 2 else 3
set_option maxHeartbeats 0 in
theorem nearR_ok (K s q r : Int) (hd : ∀ m, COk Tryz.prog 3 170 [U K, I s] m (.tup [U q, I r]) m) (m : List Blk) : COk Tryz.prog 3 156 [U K, I s] m (U (if (r == 3) = true then IntKind.u64.wrap (q + 1) else if (r == 2) = true then (if (q.tmod 2 == 1) = true then IntKind.u64.wrap (q + 1) else q) else q)) m := by
  by_cases h3 : (r == 3) = true
  · rw [if_pos h3]
    refine COk_quiet Tryz.f156 Tryz.func156 (by kernel_rfl) rfl ?_
    (conv => whnf); repeat ((first | refine ⟨_, _, hd _, ?_⟩ | refine br_yes h3 ?_); conv => whnf)
    exact ⟨rfl, [], by simp⟩
  have h3' := Bool.eq_false_iff.2 h3
  by_cases h2 : (r == 2) = true
  · by_cases ho : (q.tmod 2 == 1) = true
    · rw [if_neg h3, if_pos h2, if_pos ho]
      refine COk_quiet Tryz.f156 Tryz.func156 (by kernel_rfl) rfl ?_
      (conv => whnf); repeat ((first | refine ⟨_, _, hd _, ?_⟩ | refine br_no h3' ?_ | refine br_yes h2 ?_ | refine br_yes ho ?_); conv => whnf)
      exact ⟨rfl, [], by simp⟩
    · have ho' := Bool.eq_false_iff.2 ho
      rw [if_neg h3, if_pos h2, if_neg ho]
      refine COk_quiet Tryz.f156 Tryz.func156 (by kernel_rfl) rfl ?_
      (conv => whnf); repeat ((first | refine ⟨_, _, hd _, ?_⟩ | refine br_no h3' ?_ | refine br_yes h2 ?_ | refine br_no ho' ?_); conv => whnf)
      exact ⟨rfl, [], by simp⟩
  have h2' := Bool.eq_false_iff.2 h2
  rw [if_neg h3, if_neg h2]
  refine COk_quiet Tryz.f156 Tryz.func156 (by kernel_rfl) rfl ?_
  (conv => whnf); repeat ((first | refine ⟨_, _, hd _, ?_⟩ | refine br_no h3' ?_ | refine br_no h2' ?_); conv => whnf)
  exact ⟨rfl, [], by simp⟩
set_option maxHeartbeats 0 in
theorem refc_nan (b : Nat) (g : Bool) (hp : ∀ m, COk Tryz.prog 3 155 [F b] m (.tup [Bo g, U 0, I 0, I 2]) m) (m : List Blk) : COk Tryz.prog 3 140 [F b, .int .i64 q52] m (I 0) m := by
  refine COk_quiet Tryz.f140 Tryz.func140 (by kernel_rfl) rfl ?_
  (conv => whnf); repeat (refine ⟨_, _, hp _, ?_⟩; conv => whnf)
  exact ⟨rfl, [], by simp⟩
def endI (g : Bool) (r : Int) : Int := if g = true then IntKind.i64.wrap (0 - IntKind.i64.wrap (if decide (r > IntKind.u64.wrap q52) = true then IntKind.u64.wrap q52 else r)) else IntKind.i64.wrap (if decide (r > IntKind.u64.wrap q52) = true then IntKind.u64.wrap q52 else r)
set_option maxHeartbeats 0 in
theorem refc_inf (b : Nat) (g : Bool) (hp : ∀ m, COk Tryz.prog 3 155 [F b] m (.tup [Bo g, U 0, I 0, I 1]) m) (m : List Blk) : COk Tryz.prog 3 140 [F b, .int .i64 q52] m (I (endI g 9223372036854775808)) m := by
  refine COk_quiet Tryz.f140 Tryz.func140 (by kernel_rfl) rfl ?_
  cases g
  · (conv => whnf); repeat (refine ⟨_, _, hp _, ?_⟩; conv => whnf)
    exact ⟨rfl, [], by simp⟩
  · (conv => whnf); repeat (refine ⟨_, _, hp _, ?_⟩; conv => whnf)
    exact ⟨rfl, [], by simp⟩
theorem end_big (g : Bool) (r : Int) (h : decide (r > IntKind.u64.wrap q52) = true) : I (endI g r) = if g = true then I (IntKind.i64.wrap (0 - IntKind.i64.wrap (IntKind.u64.wrap q52))) else I (IntKind.i64.wrap (IntKind.u64.wrap q52)) := by
  unfold endI; simp only [h, if_true]
  cases g <;> rfl
theorem end_low (g : Bool) (r : Int) (h : decide (r > IntKind.u64.wrap q52) = false) : I (endI g r) = if g = true then I (IntKind.i64.wrap (0 - IntKind.i64.wrap r)) else I (IntKind.i64.wrap r) := by
  unfold endI; simp only [h, Bool.false_eq_true, if_false]
  cases g <;> rfl
set_option maxHeartbeats 0 in
theorem refc_low (b : Nat) (g : Bool) (K e r : Int) (hp : ∀ m, COk Tryz.prog 3 155 [F b] m (.tup [Bo g, U K, I e, I 0]) m) (he : decide (e < 0) = true) (hn : ∀ m, COk Tryz.prog 3 156 [U K, I (IntKind.i64.wrap (0 - e))] m (U r) m) (m : List Blk) : COk Tryz.prog 3 140 [F b, .int .i64 q52] m (I (endI g r)) m := by
  have he2 : decide (e ≥ 0) = false := by simpa using he
  cases hr : decide (r > IntKind.u64.wrap q52)
  · cases g
    · rw [end_low _ r hr]
      refine COk_quiet Tryz.f140 Tryz.func140 (by kernel_rfl) rfl ?_
      (conv => whnf); repeat ((first | refine ⟨_, _, hp _, ?_⟩ | refine br_yes he ?_ | refine ⟨_, _, hn _, ?_⟩ | refine br_no he2 ?_ | refine br_no hr ?_); conv => whnf)
      exact ⟨rfl, [], by simp⟩
    · rw [end_low _ r hr]
      refine COk_quiet Tryz.f140 Tryz.func140 (by kernel_rfl) rfl ?_
      (conv => whnf); repeat ((first | refine ⟨_, _, hp _, ?_⟩ | refine br_yes he ?_ | refine ⟨_, _, hn _, ?_⟩ | refine br_no he2 ?_ | refine br_no hr ?_); conv => whnf)
      exact ⟨rfl, [], by simp⟩
  · cases g
    · rw [end_big _ r hr]
      refine COk_quiet Tryz.f140 Tryz.func140 (by kernel_rfl) rfl ?_
      (conv => whnf); repeat ((first | refine ⟨_, _, hp _, ?_⟩ | refine br_yes he ?_ | refine ⟨_, _, hn _, ?_⟩ | refine br_no he2 ?_ | refine br_yes hr ?_); conv => whnf)
      exact ⟨rfl, [], by simp⟩
    · rw [end_big _ r hr]
      refine COk_quiet Tryz.f140 Tryz.func140 (by kernel_rfl) rfl ?_
      (conv => whnf); repeat ((first | refine ⟨_, _, hp _, ?_⟩ | refine br_yes he ?_ | refine ⟨_, _, hn _, ?_⟩ | refine br_no he2 ?_ | refine br_yes hr ?_); conv => whnf)
      exact ⟨rfl, [], by simp⟩
abbrev shI (K e : Int) : Int := IntKind.u64.wrap (K * 2 ^ min (IntKind.u64.wrap e).toNat IntKind.u64.bits)
set_option maxHeartbeats 0 in
theorem refc_high (b : Nat) (g : Bool) (K e : Int) (hp : ∀ m, COk Tryz.prog 3 155 [F b] m (.tup [Bo g, U K, I e, I 0]) m) (he : decide (e < 0) = false) (hg : ∀ m, COk Tryz.prog 3 157 [U K, I e] m (Bo false) m) (m : List Blk) : COk Tryz.prog 3 140 [F b, .int .i64 q52] m (I (endI g (shI K e))) m := by
  have he2 : decide (e ≥ 0) = true := by simpa using he
  cases hr : decide (shI K e > IntKind.u64.wrap q52)
  · cases g
    · rw [end_low _ _ hr]
      refine COk_quiet Tryz.f140 Tryz.func140 (by kernel_rfl) rfl ?_
      (conv => whnf); repeat ((first | refine ⟨_, _, hp _, ?_⟩ | refine br_no he ?_ | refine br_yes he2 ?_ | refine ⟨_, _, hg _, ?_⟩ | refine br_yes (u64_nn _) ?_ | refine br_no hr ?_); conv => whnf)
      exact ⟨rfl, [], by simp⟩
    · rw [end_low _ _ hr]
      refine COk_quiet Tryz.f140 Tryz.func140 (by kernel_rfl) rfl ?_
      (conv => whnf); repeat ((first | refine ⟨_, _, hp _, ?_⟩ | refine br_no he ?_ | refine br_yes he2 ?_ | refine ⟨_, _, hg _, ?_⟩ | refine br_yes (u64_nn _) ?_ | refine br_no hr ?_); conv => whnf)
      exact ⟨rfl, [], by simp⟩
  · cases g
    · rw [end_big _ _ hr]
      refine COk_quiet Tryz.f140 Tryz.func140 (by kernel_rfl) rfl ?_
      (conv => whnf); repeat ((first | refine ⟨_, _, hp _, ?_⟩ | refine br_no he ?_ | refine br_yes he2 ?_ | refine ⟨_, _, hg _, ?_⟩ | refine br_yes (u64_nn _) ?_ | refine br_yes hr ?_); conv => whnf)
      exact ⟨rfl, [], by simp⟩
    · rw [end_big _ _ hr]
      refine COk_quiet Tryz.f140 Tryz.func140 (by kernel_rfl) rfl ?_
      (conv => whnf); repeat ((first | refine ⟨_, _, hp _, ?_⟩ | refine br_no he ?_ | refine br_yes he2 ?_ | refine ⟨_, _, hg _, ?_⟩ | refine br_yes (u64_nn _) ?_ | refine br_yes hr ?_); conv => whnf)
      exact ⟨rfl, [], by simp⟩
set_option maxHeartbeats 0 in
theorem refc_great (b : Nat) (g : Bool) (K e : Int) (hp : ∀ m, COk Tryz.prog 3 155 [F b] m (.tup [Bo g, U K, I e, I 0]) m) (he : decide (e < 0) = false) (hg : ∀ m, COk Tryz.prog 3 157 [U K, I e] m (Bo true) m) (m : List Blk) : COk Tryz.prog 3 140 [F b, .int .i64 q52] m (I (endI g 9223372036854775808)) m := by
  have he2 : decide (e ≥ 0) = true := by simpa using he
  refine COk_quiet Tryz.f140 Tryz.func140 (by kernel_rfl) rfl ?_
  cases g
  · (conv => whnf); repeat ((first | refine ⟨_, _, hp _, ?_⟩ | refine br_no he ?_ | refine br_yes he2 ?_ | refine ⟨_, _, hg _, ?_⟩); conv => whnf)
    exact ⟨rfl, [], by simp⟩
  · (conv => whnf); repeat ((first | refine ⟨_, _, hp _, ?_⟩ | refine br_no he ?_ | refine br_yes he2 ?_ | refine ⟨_, _, hg _, ?_⟩); conv => whnf)
    exact ⟨rfl, [], by simp⟩
theorem fld_eq (b : Nat) : fldI b = ((b / 4503599627370496 % 2048 : Nat) : Int) := by
  unfold fldI
  rw [show (2 : Int) ^ min (Int.toNat 52) IntKind.u64.bits = ((4503599627370496 : Nat) : Int) from rfl, Int.fdiv_eq_ediv_of_nonneg _ (by decide), ← Int.natCast_ediv]
  rw [show (((b / 4503599627370496 : Nat) : Int)).tmod 2048 = ((b / 4503599627370496 % 2048 : Nat) : Int) from rfl]
  exact wrap_id (by omega) (by omega)
theorem sg_eq (b : Nat) : sgB b = decide (b / 9223372036854775808 = 1) := by
  unfold sgB
  rw [show (2 : Int) ^ min (Int.toNat 63) IntKind.u64.bits = ((9223372036854775808 : Nat) : Int) from rfl, Int.fdiv_eq_ediv_of_nonneg _ (by decide), ← Int.natCast_ediv]
  rw [show (((b / 9223372036854775808 : Nat) : Int) == 1) = decide (((b / 9223372036854775808 : Nat) : Int) = 1) from rfl]
  exact decide_eq_decide.2 (by omega)
theorem mI_eq (b : Nat) : mI b = ((b % 4503599627370496 : Nat) : Int) := rfl
theorem end_is (g : Bool) (n : Nat) (h : n ≤ 9223372036854775808) : endI g n = if g then -(if (n : Int) < q52 then (n : Int) else q52) else (if (n : Int) < q52 then (n : Int) else q52) := by
  have q : q52 = 4503599627370496 := rfl
  have e : IntKind.u64.wrap q52 = q52 := by decide
  unfold endI
  rw [e]
  by_cases hc : (n : Int) > q52
  · rw [decide_eq_true hc, if_neg (show ¬ ((n : Int) < q52) by omega)]
    simp only [if_true]
    cases g <;> decide
  · rw [decide_eq_false hc]
    simp only [Bool.false_eq_true, if_false]
    rw [wrap_id (n := (n : Int)) (by omega) (by omega)]
    by_cases h2 : (n : Int) < q52
    · rw [if_pos h2]
      cases g
      · rfl
      · simp only [if_true]
        rw [wrap_id (by omega) (by omega)]; omega
    · rw [if_neg h2, show (n : Int) = q52 by omega]
      cases g
      · rfl
      · decide
theorem sh_id (s : Nat) (h : s < 64) : min (IntKind.u64.wrap (s : Int)).toNat IntKind.u64.bits = s := by
  rw [wrap_u (by omega) (by omega), show IntKind.u64.bits = 64 from rfl]
  omega
theorem q_eq (K s : Nat) (h : s < 64) : qI K s = ((K / 2 ^ s : Nat) : Int) := by
  unfold qI
  rw [sh_id s h, show (2 : Int) ^ s = ((2 ^ s : Nat) : Int) by push_cast; rfl, Int.fdiv_eq_ediv_of_nonneg _ (Int.natCast_nonneg _), ← Int.natCast_ediv]
theorem r_eq (K s : Nat) (hK : K < 9007199254740992) (h : s < 64) : rI K s = ((K % 2 ^ s : Nat) : Int) := by
  unfold rI
  rw [sh_id s h, q_eq K s h, show (2 : Int) ^ s = ((2 ^ s : Nat) : Int) by push_cast; rfl, ← Int.natCast_mul]
  have h1 := Nat.div_mul_le_self K (2 ^ s)
  have h2 := Nat.div_add_mod' K (2 ^ s)
  generalize K / 2 ^ s * 2 ^ s = x at *
  generalize K % 2 ^ s = y at *
  rw [wrap_u (n := (x : Int)) (by omega) (by omega), wrap_u (by omega) (by omega)]
  omega
theorem h_eq (s : Nat) (h1 : 1 ≤ s) (h : s < 64) : hI s = ((2 ^ (s - 1) : Nat) : Int) := by
  unfold hI
  rw [wrap_id (n := (s : Int) - 1) (by omega) (by omega), show (s : Int) - 1 = ((s - 1 : Nat) : Int) by omega, sh_id (s - 1) (by omega), Int.one_mul, show (2 : Int) ^ (s - 1) = ((2 ^ (s - 1) : Nat) : Int) by push_cast; rfl]
  have : 2 ^ (s - 1) ≤ 2 ^ 62 := Nat.pow_le_pow_right (by decide) (by omega)
  generalize 2 ^ (s - 1) = x at *
  exact wrap_u (by omega) (by omega)
theorem wrap_u1 (x : Nat) (h : x < 9007199254740992) : IntKind.u64.wrap ((x : Int) + 1) = ((x + 1 : Nat) : Int) := by
  rw [wrap_u (by omega) (by omega)]; rfl
theorem nearW (K s : Nat) (hK : K < 9007199254740992) (h1 : 1 ≤ s) (hs : s ≤ 1074) (m : List Blk) : COk Tryz.prog 3 156 [U K, I s] m (U (nearN K s : Nat)) m := by
  rcases Nat.lt_or_ge s 64 with h | h
  · have e := nearR_ok K s _ _ (down_near K s (decide_eq_false (by omega))) m
    rw [q_eq K s h, r_eq K s hK h, h_eq s h1 h] at e
    have hp := pow_pred h1
    have hq : K / 2 ^ s < 9007199254740992 := Nat.lt_of_le_of_lt (Nat.div_le_self _ _) hK
    have ho : ((K / 2 ^ s : Nat) : Int).tmod 2 = ((K / 2 ^ s % 2 : Nat) : Int) := rfl
    rw [ho, wrap_u1 _ hq] at e
    refine cast (congrArg (fun z => COk Tryz.prog 3 156 [U K, I s] m (U z) m) ?_) e
    unfold nearN
    have hpp : 0 < 2 ^ (s - 1) := Nat.pow_pos (by decide)
    rw [← hp]
    rw [← hp] at hq
    generalize K % (2 * 2 ^ (s - 1)) = y at *
    generalize K / (2 * 2 ^ (s - 1)) = x at *
    generalize 2 ^ (s - 1) = a at *
    clear e ho
    rcases Nat.lt_trichotomy y a with h5 | h5 | h5
    · rw [if_neg (c := 2 * a < 2 * y ∨ _) (by omega)]
      have e2 : decide (((y : Nat) : Int) < (a : Int)) = true := decide_eq_true (by omega)
      rw [e2]
      by_cases h0 : ((y : Int) == 0) = true
      · rw [if_pos h0]; rfl
      · rw [if_neg h0]; rfl
    · subst h5
      have e1 : ((y : Int) == 0) = false := by simpa using (show y ≠ 0 by omega)
      have e2 : decide (((y : Nat) : Int) < (y : Int)) = false := decide_eq_false (by omega)
      have e3 : (((y : Nat) : Int) == (y : Int)) = true := by simp
      rw [e1, e2, e3]
      simp only [Bool.false_eq_true, if_false, if_true]
      rw [if_neg (by decide), if_pos (by decide)]
      by_cases h6 : x % 2 = 1
      · rw [if_pos (show (((x % 2 : Nat) : Int) == 1) = true by rw [h6]; rfl), if_pos (show 2 * y < 2 * y ∨ True ∧ x % 2 = 1 from .inr ⟨trivial, h6⟩)]
      · rw [if_neg (show ¬ (((x % 2 : Nat) : Int) == 1) = true by rw [show x % 2 = 0 by omega]; decide), if_neg (show ¬ (2 * y < 2 * y ∨ True ∧ x % 2 = 1) by omega)]
    · have e1 : ((y : Int) == 0) = false := by simpa using (show y ≠ 0 by omega)
      have e2 : decide (((y : Nat) : Int) < (a : Int)) = false := decide_eq_false (by omega)
      have e3 : (((y : Nat) : Int) == (a : Int)) = false := beq_eq_false_iff_ne.2 (by omega)
      rw [e1, e2, e3]
      simp only [Bool.false_eq_true, if_false, if_true]
      rw [if_pos (by decide), if_pos (by omega)]
  · have e := nearR_ok K s _ _ (down_far K s (decide_eq_true (by omega))) m
    have hp : 2 ^ 64 ≤ 2 ^ s := Nat.pow_le_pow_right (by decide) h
    have en : nearN K s = 0 := by
      unfold nearN
      rw [Nat.mod_eq_of_lt (by omega), Nat.div_eq_of_lt (by omega), if_neg (by omega)]
    rw [en]
    refine cast (congrArg (fun z => COk Tryz.prog 3 156 [U K, I s] m (U z) m) ?_) e
    by_cases h0 : (((K : Nat) : Int) == 0) = true
    · rw [if_pos h0]; rfl
    · rw [if_neg h0]; rfl
theorem refclamp_ok (b : Nat) (hb : b < 18446744073709551616) (m : List Blk) : COk Tryz.prog 3 140 [F b, .int .i64 q52] m (.int .i64 (clampF (some b))) m := by
  have hi := infR_eq
  have hw : wholeB = 4890909195324358656 := rfl
  have qq : q52 = 4503599627370496 := rfl
  rcases nan_or hb with hn | ⟨s, R, hR, rfl⟩
  · have e : clampF (some b) = 0 := by
      unfold clampF
      simp only
      rw [if_pos]
      unfold fne
      rw [(nan_cmp hn _).1]; rfl
    rw [e]
    obtain ⟨h1, h2⟩ := hn
    have e3 : f64.signWeight = 2 ^ 63 := by decide
    have h2 : f64.infRung < b % f64.signWeight := h2
    have e4 : f64.infRung = infR := rfl
    rw [e3, e4] at h2
    have f1 : (fldI b == 2047) = true := by rw [fld_eq]; simpa using (by omega : ((b / 4503599627370496 % 2048 : Nat) : Int) = 2047)
    have f2 : (mI b == 0) = false := by rw [mI_eq]; simpa using (by omega : ¬ ((b % 4503599627370496 : Nat) : Int) = 0)
    exact refc_nan b _ (parts_nan b f1 f2) m
  · rw [clamp_wd s hR]
    have hsg : sgB (wd s R) = s := by
      rw [sg_eq]
      cases s
      · rw [wd_false]; exact decide_eq_false (by omega)
      · rw [wd_true]; exact decide_eq_true (by omega)
    have hfl : fldI (wd s R) = ((R / 4503599627370496 : Nat) : Int) := by
      rw [fld_eq]
      cases s
      · rw [wd_false]; omega
      · rw [wd_true]; omega
    have hmm : mI (wd s R) = ((R % 4503599627370496 : Nat) : Int) := by
      rw [mI_eq]
      cases s
      · rw [wd_false]
      · rw [wd_true]; omega
    rcases Nat.lt_or_ge R infR with h1 | h1
    · have f1 : (fldI (wd s R) == 2047) = false := by rw [hfl]; simpa using (by omega : ¬ ((R / 4503599627370496 : Nat) : Int) = 2047)
      rcases Nat.lt_or_ge R 4503599627370496 with h2 | h2
      · have f2 : (fldI (wd s R) == 0) = true := by rw [hfl]; simpa using (by omega : ((R / 4503599627370496 : Nat) : Int) = 0)
        have hp := parts_sub _ f1 f2
        rw [hsg, hmm, Nat.mod_eq_of_lt h2] at hp
        have h := refc_low _ _ _ _ _ hp (by decide) (nearW R 1074 (by omega) (by decide) (Nat.le_refl _)) m
        have en : nearZ R = nearN R 1074 := by unfold nearZ; rw [if_pos h2]
        have hz := (near_is (R := R) (by omega)).choose_spec.2.2
        rw [en] at hz
        rw [end_is _ _ (by omega)] at h
        rw [size_near (by omega), en]
        exact h
      · have f2 : (fldI (wd s R) == 0) = false := by rw [hfl]; simpa using (by omega : ¬ ((R / 4503599627370496 : Nat) : Int) = 0)
        have hp := parts_norm _ f1 f2
        rw [hsg, hmm, hfl, wrap_u (n := ((R % 4503599627370496 : Nat) : Int) + 4503599627370496) (by omega) (by omega), wrap_id (n := ((R / 4503599627370496 : Nat) : Int) - 1075) (by omega) (by omega)] at hp
        rw [show ((R % 4503599627370496 : Nat) : Int) + 4503599627370496 = ((R % 4503599627370496 + 4503599627370496 : Nat) : Int) by omega] at hp
        rcases Nat.lt_or_ge (R / 4503599627370496) 1075 with h3 | h3
        · have hnw := nearW (R % 4503599627370496 + 4503599627370496) (1075 - R / 4503599627370496) (by omega) (by omega) (by omega)
          have h := refc_low _ _ _ _ _ hp (decide_eq_true (by omega)) (by rw [wrap_id (by omega) (by omega), show (0 : Int) - (((R / 4503599627370496 : Nat) : Int) - 1075) = ((1075 - R / 4503599627370496 : Nat) : Int) by omega]; exact hnw) m
          have en : nearZ R = nearN (R % 4503599627370496 + 4503599627370496) (1075 - R / 4503599627370496) := by unfold nearZ; rw [if_neg (by omega), if_pos (by omega)]
          have hz := (near_is (R := R) (by omega)).choose_spec.2.2
          rw [en] at hz
          rw [end_is _ _ (by omega)] at h
          rw [size_near (by omega), en]
          exact h
        · obtain ⟨e, he⟩ : ∃ e, R / 4503599627370496 = 1075 + e := ⟨R / 4503599627370496 - 1075, by omega⟩
          rw [show ((R / 4503599627370496 : Nat) : Int) - 1075 = (e : Int) by omega] at hp
          have hg := great_ok ((R % 4503599627370496 + 4503599627370496 : Nat) : Int) (e : Int)
          have hK0 : (((R % 4503599627370496 + 4503599627370496 : Nat) : Int) != 0) = true := by simpa using (by omega : ¬ ((R % 4503599627370496 + 4503599627370496 : Nat) : Int) = 0)
          rcases Nat.lt_or_ge 11 e with h4 | h4
          · rw [hK0, decide_eq_true (by omega)] at hg
            have h := refc_great _ _ _ _ hp (decide_eq_false (by omega)) hg m
            have h9 := end_is s 9223372036854775808 (Nat.le_refl _)
            rw [size_far (by omega) (by omega)]
            rw [show endI s 9223372036854775808 = if s then -q52 else q52 by cases s <;> decide] at h
            exact h
          · have hgi : gI (e : Int) = ((9223372036854775808 / 2 ^ e : Nat) : Int) := by
              unfold gI
              rw [sh_id e (by omega), show (2 : Int) ^ e = ((2 ^ e : Nat) : Int) by push_cast; rfl, Int.fdiv_eq_ediv_of_nonneg _ (Int.natCast_nonneg _), show (9223372036854775808 : Int) = ((9223372036854775808 : Nat) : Int) from rfl, ← Int.natCast_ediv]
            rw [hK0, decide_eq_false (show ¬ (e : Int) > 11 by omega), Bool.true_and, Bool.false_or, hgi] at hg
            rcases Nat.lt_or_ge e 11 with h5 | h5
            · have hd : 9007199254740992 ≤ 9223372036854775808 / 2 ^ e := by
                have : 2 ^ e ≤ 2 ^ 10 := Nat.pow_le_pow_right (by decide) (by omega)
                exact (Nat.le_div_iff_mul_le (Nat.pow_pos (by decide))).2 (by omega)
              rw [decide_eq_false (by omega)] at hg
              have h := refc_high _ _ _ _ hp (decide_eq_false (by omega)) hg m
              have en : nearZ R = (R % 4503599627370496 + 4503599627370496) * 2 ^ e := by
                unfold nearZ; rw [if_neg (by omega), if_neg (by omega), show R / 4503599627370496 - 1075 = e by omega]
              have hz := (near_is (R := R) (by omega)).choose_spec.2.2
              rw [en] at hz
              have hsh : shI ((R % 4503599627370496 + 4503599627370496 : Nat) : Int) (e : Int) = (((R % 4503599627370496 + 4503599627370496) * 2 ^ e : Nat) : Int) := by
                unfold shI
                rw [sh_id e (by omega), show (2 : Int) ^ e = ((2 ^ e : Nat) : Int) by push_cast; rfl, ← Int.natCast_mul]
                generalize (R % 4503599627370496 + 4503599627370496) * 2 ^ e = z at *
                exact wrap_u (by omega) (by omega)
              rw [hsh, end_is _ _ (by omega)] at h
              rw [size_near (by omega), en]
              exact h
            · obtain rfl : e = 11 := by omega
              rw [size_far (by omega) (by omega)]
              rcases Nat.lt_or_ge 4503599627370496 (R % 4503599627370496 + 4503599627370496) with h6 | h6
              · rw [decide_eq_true (by omega)] at hg
                have h := refc_great _ _ _ _ hp (decide_eq_false (by omega)) hg m
                rw [show endI s 9223372036854775808 = if s then -q52 else q52 by cases s <;> decide] at h
                exact h
              · rw [decide_eq_false (by omega)] at hg
                have h := refc_high _ _ _ _ hp (decide_eq_false (by omega)) hg m
                rw [show R % 4503599627370496 + 4503599627370496 = 4503599627370496 by omega] at h
                rw [show endI s (shI ((4503599627370496 : Nat) : Int) ((11 : Nat) : Int)) = if s then -q52 else q52 by cases s <;> decide] at h
                exact h
    · obtain rfl : R = infR := by omega
      have f1 : (fldI (wd s infR) == 2047) = true := by rw [hfl, hi]; rfl
      have f2 : (mI (wd s infR) == 0) = true := by rw [hmm, hi]; rfl
      have hp := parts_inf _ f1 f2
      rw [hsg] at hp
      have h := refc_inf _ _ hp m
      rw [show endI s 9223372036854775808 = if s then -q52 else q52 by cases s <;> decide] at h
      rw [size_far (by omega) (by omega)]
      exact h
theorem refclampO_ok (o : Option Nat) (hb : ∀ b, o = some b → b < 18446744073709551616) (m : List Blk) : COk Tryz.prog 3 140 [.fl o, .int .i64 q52] m (.int .i64 (clampF o)) m := by
  cases o with
  | none =>
    refine COk_bits [] (bs := [.int .i64 q52]) (fun b hn => ?_)
    have h := refclamp_ok b (by have := hn.1; omega) m
    have e : clampF (some b) = clampF none := by
      unfold clampF
      simp only
      rw [if_pos]
      unfold fne
      rw [(nan_cmp hn _).1]; rfl
    rwa [e] at h
  | some b => exact refclamp_ok b (hb b rfl) m
end Go.Proofs.YtgoljofmbidkfaaGreatDoor
