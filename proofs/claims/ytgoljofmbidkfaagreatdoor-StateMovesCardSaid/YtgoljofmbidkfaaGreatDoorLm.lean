import Derived.Test.YtgoljofmbidkfaaGreatDoorLt
/- StateMoves: its contract. No condition. -/
namespace Go.Proofs.YtgoljofmbidkfaaGreatDoor
open Go Go.Eng
set_option maxRecDepth 100000
set_option linter.unusedSimpArgs false
set_option linter.unusedVariables false

abbrev neg1 : Nat := 13830554455654793216
def sgW (r : Bool) : Nat := if r = true then neg1 else one1
theorem sg_mul {s : Bool} {R : Nat} (r : Bool) (hR : R < infR) : fmul (some (wd s R)) (some (sgW r)) = some (wd (s ^^ r) R) := by
  have h1 : one1 < infR := by decide
  have hv : vR one1 = 1 := by decide +kernel
  have e : sgW r = wd r one1 := by cases r <;> rfl
  rw [e]
  obtain ⟨N, h2, h3⟩ := mul_rd (R := R) (Q := one1) s r hR h1
  rw [h2]
  rw [hv] at h3
  have := h3.eq (by grind) (by omega : R ≤ infR)
  rw [this]
theorem sg_zero (r : Bool) : fmul (some 0) (some (sgW r)) = some (wd r 0) := by
  have := sg_mul (s := false) (R := 0) r (by decide)
  rw [Bool.false_xor] at this
  exact this
/-- Water goes the same way as before. -/
theorem prod_same {x : Nat} {s : Bool} {R : Nat} (hx : x = cw s R) (hR : R < infR) (r q : Bool) : fne (fmul (some x) (some (sgW q))) (fmul (some (trS r x)) (some (sgW (r ^^ q)))) = false := by
  subst hx
  have e : trS r (cw s R) = cw (s ^^ r) R := by
    unfold trS
    cases r
    · simp
    · simp; exact negF_cw s (by omega)
  rw [e]
  unfold cw
  by_cases h0 : R = 0
  · subst h0
    rw [if_pos rfl, if_pos rfl, sg_zero, sg_zero, fne_rk _ _ (Nat.zero_le _) (Nat.zero_le _)]
    refine decide_eq_false ?_
    unfold rk
    cases q <;> cases r <;> simp
  · rw [if_neg h0, if_neg h0, sg_mul _ hR, sg_mul _ hR, fne_rk _ _ (by omega) (by omega)]
    refine decide_eq_false ?_
    have : (s ^^ r ^^ (r ^^ q)) = (s ^^ q) := by cases s <;> cases r <;> cases q <;> rfl
    rw [this]
    simp
theorem near_sg (w : Int) (r : Bool) (h : w = if r = true then -1 else 1) : FloatKind.f64.nearest w = sgW r := by
  subst h
  cases r <;> decide +kernel
theorem turn24 (k : Int) : ∃ t : Nat, t < 24 ∧ IntKind.i64.wrap ((IntKind.u64.wrap k).tmod 24) = (t : Int) := by
  obtain ⟨a, h1, h2⟩ := u64_nat k
  refine ⟨a % 24, Nat.mod_lt _ (by decide), ?_⟩
  rw [h1, show (24 : Int) = ((24 : Nat) : Int) from rfl, ← Int.ofNat_tmod]
  exact wrap_id (by omega) (by omega)
theorem around_c {n c s : Nat} (hn : 1 ≤ n) (hc : c < 6 * (n * n)) (hs : s < 4) : ∀ m b, Net m b n → COk Tryz.prog 3 38 [.ptr (b + 1) 0, I c, I s] m (.tup [I (nu n c s), I (if (!fw n c s) = true then -1 else 1)]) m := by
  intro m b N
  obtain ⟨h1, y, h2, h3⟩ := nu_at hn hc hs
  have hne := (nbC_ne hn hc hs).1
  have h := around_ok N _ _ _ y h1 h2
  rcases h3 with ⟨f, rfl⟩ | ⟨f, rfl⟩
  · rw [f]
    rw [if_pos rfl] at h
    exact h
  · rw [f]
    rw [if_neg (by simp only; omega)] at h
    exact h
section
variable {M : List Blk} (hm : Top M) (hsc : scM M.length M = true) {w : Bool} {j0 j1 j2 j3 : Nat} {Be : List Nat} {Wt Tr : List Int} {Sp : List Nat} (S : SeaB M w j0 j1 j2 j3 Be Wt Tr Sp) (x sky step : Int)
include hm hsc S
set_option maxHeartbeats 0 in
theorem moves20_ok (turn : Int) : COk Tryz.prog 3 10 [I x, seaV j0 j1 j2 j3 Be.length Wt.length Tr.length Sp.length sky step, I turn] M (Bo true) M := by
  have u0 := sBx_up hsc S sky step
  have hm0 := hm.up u0
  have S0 := S.up u0
  have haw := awake20_ok hm0 u0.sc
  have hwd := wide_ok (M := M ++ [sV j0 j1 j2 j3 Be Wt Tr Sp sky step]) j0 j1 j2 j3 S.l0 S.l1 S.l2 S.l3 sky step
  obtain ⟨t, ht, htk⟩ := turn24 turn
  cases hq : wideB Be.length Wt.length Tr.length Sp.length with
  | true =>
    rw [hq] at hwd
    refine COk_quiet Tryz.f10 Tryz.func10 (by kernel_rfl) rfl ?_
    (conv => whnf); repeat ((first | refine ⟨_, _, haw, ?_⟩ | refine ⟨_, _, hwd, ?_⟩ | rw [getB_app0] | refine addB_f0 ?_); conv => whnf)
    exact ⟨rfl, _, rfl⟩
  | false =>
    rw [hq] at hwd
    by_cases hc : (chkF x Be Wt Tr Sp sky step).2 = 0
    · obtain ⟨n, rfl, O⟩ := chk_ok hc
      have hn := O.n1
      have hn' := O.n2
      have hsq : n * n ≤ 1024 := Nat.mul_le_mul hn' hn'
      obtain ⟨M1, a0, a1, a2, a3, hA, u1, S1⟩ := Turned_up hm0 u0.sc S0 O ht
      have v1 := sBx_up u1.sc S1 sky step
      have w1 := u1.trans v1
      obtain ⟨b, M2, hnew, N, u2⟩ := new_up (hm0.up w1) w1.sc n O.n1 O.n2
      have w2 := w1.trans u2
      have gs1 := box_in rfl u1
      have gs2 := box_in rfl (w1.trans u2)
      have ga2 := box_in rfl u2
      have gs20 := box_in0 rfl (w1.trans u2)
      have ga20 := box_in0 rfl u2
      have hm2 := hm0.up w2
      have R0 := (S0.up w2).read
      have R1 := ((S1.up v1).up u2).read
      have hgc := gcells_ok (N.more [])
      simp only [List.append_nil] at hgc
      have lB := O.l0
      have lW := O.l1
      have lT := O.l2
      have lS := O.l3
      have q0 := trB_len 0 n t Be
      have q1 := trB_len 0 n t Wt
      have q2 := trB_len 0 n t Tr
      have q3 := trP_len n t Sp
      refine COk_quiet Tryz.f10 Tryz.func10 (by kernel_rfl) rfl ?_
      (conv => whnf); repeat ((first | refine ⟨_, _, haw, ?_⟩ | refine ⟨_, _, hwd, ?_⟩ | rw [htk] | refine ⟨_, _, hA, ?_⟩ | refine ⟨_, _, hnew, ?_⟩ | rw [gs20] | rw [ga20] | refine br_no (bo_eqn rfl) ?_ | refine setB_app0 ?_ | rw [getB_app0] | refine addB_f0 ?_); conv => whnf)
      have hnl := N.lt
      have hl1 := u1.len
      have hl2 := u2.len
      have hl0 : M.length + 1 ≤ M1.length := by simpa using hl1
      have hl3 : M1.length + 1 ≤ M2.length := by simpa using hl2
      refine loop_to (fun k => [I n, .any, .any, .any, .ptr M.length 0, .any, .any, .any, I t, .ptr M1.length 0, .any, .ptr (b + 1) 0, .any, I k, .any, .any, .any, .any, .any, .any, .any, .any, .any, .any, .any, .any, .any, .any, .any, .any, .any, .any, .any, .any, .any, .any, .any, .any, .any, .any, .any, .any, .any, .any, .any, .any, .any, .any, .any, .any, .any, .any, .any, .any, .any, .any, .any, .any, .any, .any, .any, .any, .any, .any, .any, .any, .any, .any, .any, .any, .any, .any, .any, .any, .any, .any, .any, .any, .any, .any, .any, .any, .any, .any, .any, .any, .any, .any, .any, .any, .any, .any, .any, .any, .any, .any, .any, .any, .any, .any, .any, .any, .any, .any, .any, .any, .any, .any, .any, .any, .any, .any, .any, .any, .any, .any, .any, .any, .any, .any, .any, .any, .any, .any, .any, .any, .any, .any, .any, .any, .any, .any, .any, .any, .any, .any, .any, .any, .any, .any, .any, .any, .any, .any, .any, .any, .any, .any, .any, .any, .any, .any, .any, .any, .any, .any, .any, .any, .any, .any, .any, .any, .any, .any, .any, .any, .any, .any, .any, .any, .any, .any, .any, .any, .any, .any]) (fun _ => M2) 0 Be.length (Nat.zero_le _) ?_ ?_ ?_
      · refine Fg.of [] ?_ (by rw [List.append_nil]) (by simp) (by first | (simp [scL, V.sc]; done) | (simp [scL, V.sc]; omega)) u2.sc
        conv => whnf
        exact ⟨rfl, rfl, rfl, rfl, rfl, rfl, rfl⟩
      · intro c _ hc'
        have hc6 : c < 6 * (n * n) := by omega
        have hT := turn_c hm2 hn hn' ht hc6
        obtain ⟨hb6, hq4⟩ := tC_lt hn ht hc6
        have eB : (trB 0 n t Be).getD (tC n t c) 0 = Be.getD c 0 := trB_at hn ht hc6
        have eW : (trB 0 n t Wt).getD (tC n t c) 0 = Wt.getD c 0 := trB_at hn ht hc6
        have eT : (trB 0 n t Tr).getD (tC n t c) 0 = Tr.getD c 0 := trB_at hn ht hc6
        have hsm : ∀ m, COk Tryz.prog 3 37 [F ((trB 0 n t Be).getD (tC n t c) 0), F (Be.getD c 0)] m (Bo true) m := fun m => by rw [eB]; exact same_eq _ _
        (conv => whnf); repeat ((first | refine ⟨_, _, hgc, ?_⟩ | refine ⟨_, _, hT, ?_⟩ | rw [gs20] | rw [ga20] | refine ⟨_, hsm _, ?_⟩ | refine SlF.at R1.s0 (i := tC n t c) (by omega) rfl ?_ | refine SlF.at R0.s0 (i := c) hc' rfl ?_ | refine SlI.at R1.s1 (i := tC n t c) (by omega) rfl ?_ | refine SlI.at R0.s1 (i := c) (by omega) rfl ?_ | refine SlI.at R1.s2 (i := tC n t c) (by omega) rfl ?_ | refine SlI.at R0.s2 (i := c) (by omega) rfl ?_ | refine br_no (bne_eq_false_iff_eq.2 eW) ?_ | refine br_no (bne_eq_false_iff_eq.2 eT) ?_ | refine br_d (by omega) ?_ | refine br_nd (by omega) ?_); conv => whnf)
        refine loop_to (fun o => [I n, .any, .any, .any, .ptr M.length 0, .any, .any, .any, I t, .ptr M1.length 0, .any, .ptr (b + 1) 0, .any, I c, I (tC n t c), I (tQ n t c), I o, .any, .any, .any, .any, .any, .any, .any, .any, .any, .any, .any, .any, .any, .any, .any, .any, .any, .any, .any, .any, .any, .any, .any, .any, .any, .any, .any, .any, .any, .any, .any, .any, .any, .any, .any, .any, .any, .any, .any, .any, .any, .any, .any, .any, .any, .any, .any, .any, .any, .any, .any, .any, .any, .any, .any, .any, .any, .any, .any, .any, .any, .any, .any, .any, .any, .any, .any, .any, .any, .any, .any, .any, .any, .any, .any, .any, .any, .any, .any, .any, .any, .any, .any, .any, .any, .any, .any, .any, .any, .any, .any, .any, .any, .any, .any, .any, .any, .any, .any, .any, .any, .any, .any, .any, .any, .any, .any, .any, .any, .any, .any, .any, .any, .any, .any, .any, .any, .any, .any, .any, .any, .any, .any, .any, .any, .any, .any, .any, .any, .any, .any, .any, .any, .any, .any, .any, .any, .any, .any, .any, .any, .any, .any, .any, .any, .any, .any, .any, .any, .any, .any, .any, .any, .any, .any, .any, .any, .any, .any]) (fun _ => M2) 0 4 (Nat.zero_le _) ?_ ?_ ?_
        · refine Fg.of [] ?_ (by rw [List.append_nil]) (by simp) (by first | (simp [scL, V.sc]; done) | (simp [scL, V.sc]; omega)) u2.sc
          conv => whnf
          exact ⟨rfl, rfl, rfl, rfl, rfl, rfl, rfl, rfl, rfl, rfl⟩
        · intro o _ ho
          have ho4 : o < 4 := ho
          have hm4 : (o + tQ n t c) % 4 < 4 := Nat.mod_lt _ (by decide)
          have hA1 := around_c hn hc6 ho4 _ _ N
          have hA2 := around_c hn hb6 hm4 _ _ N
          obtain ⟨r1, r2⟩ := tE_nu hn ht hc6 ho4
          have hsd := side_sum4 ho4 hq4
          have hnu := nu_lt hn hc6 ho4
          have hnt : tE n t (nu n c o) < (edges n).length := tE_lt hn ht hnu
          have eP : (trP n t Sp).getD (tE n t (nu n c o)) 0 = trS (tR n t (nu n c o)) (Sp.getD (nu n c o) 0) := trP_at hn ht hnu
          have hbt := badF_no (O.spd (nu n c o) (by omega))
          obtain ⟨sg, R, hR, hxe⟩ := (betw_iff (S.f3 _ (by omega)) (by decide)).1 hbt
          have hpr := prod_same hxe (by have : mxS < infR := by decide
                                        omega) (tR n t (nu n c o)) (!fw n c o)
          rw [r2, ← eP] at hpr
          have hb0 := (trS_betw (tR n t (nu n c o)) (S.f3 (nu n c o) (by omega)) (by decide : mxS ≤ infR) hbt).1
          rw [← eP] at hb0
          have hnz : (trP n t Sp).getD (tE n t (nu n c o)) 0 ≠ 9223372036854775808 := by
            unfold betw at hb0
            rw [Bool.and_eq_true, Bool.and_eq_true] at hb0
            simpa using hb0.2.2
          rw [← r1] at hA2
          obtain ⟨v1, hv1⟩ : ∃ v : Int, v = if (!fw n c o) = true then -1 else 1 := ⟨_, rfl⟩
          obtain ⟨v2, hv2⟩ : ∃ v : Int, v = if (!fw n (tC n t c) ((o + tQ n t c) % 4)) = true then -1 else 1 := ⟨_, rfl⟩
          have ev1 := near_sg _ _ hv1
          have ev2 := near_sg _ _ hv2
          rw [← ev1, ← ev2] at hpr
          rw [← hv1] at hA1
          rw [← hv2] at hA2
          generalize tE n t (nu n c o) = je at *
          generalize nu n c o = ie at *
          have hbz : ((((trP n t Sp).getD je 0 : Nat) : Int) == 9223372036854775808) = false := beq_eq_false_iff_ne.2 (by omega)
          (conv => whnf); repeat ((first | refine ⟨_, _, hA1, ?_⟩ | rw [hsd] | refine ⟨_, _, hA2, ?_⟩ | rw [gs20] | rw [ga20] | refine SlF.at R0.s3 (i := ie) (by omega) rfl ?_ | refine SlF.at R1.s3 (i := je) (by omega) rfl ?_ | refine br_no hpr ?_ | refine ⟨_, bits_ok _ _, ?_⟩ | refine br_no hbz ?_ | refine br_d (by omega) ?_); conv => whnf)
          refine Fg.of [] ?_ (by rw [List.append_nil]) (by simp) (by first | (simp [scL, V.sc]; done) | (simp [scL, V.sc]; omega)) u2.sc
          conv => whnf
          exact ⟨rfl, rfl, rfl, rfl, rfl, rfl, rfl, rfl, wrapKL (by omega), rfl⟩
        · (conv => whnf)
          refine Fg.of [] ?_ (by rw [List.append_nil]) (by simp) (by first | (simp [scL, V.sc]; done) | (simp [scL, V.sc]; omega)) u2.sc
          conv => whnf
          exact ⟨rfl, rfl, rfl, rfl, rfl, wrapKL (by omega), rfl⟩
      · (conv => whnf); repeat ((first | refine ⟨_, _, hgc, ?_⟩ | refine br_nd (by omega) ?_); conv => whnf)
        exact ⟨rfl, (u0.trans w2).ex⟩
    · have hA := Turned_err hm0 u0.sc S0 x sky step t hc
      refine COk_quiet Tryz.f10 Tryz.func10 (by kernel_rfl) rfl ?_
      (conv => whnf); repeat ((first | refine ⟨_, _, haw, ?_⟩ | refine ⟨_, _, hwd, ?_⟩ | rw [htk] | refine ⟨_, _, hA, ?_⟩ | refine br_yes (bne_iff_ne.2 hc) ?_ | refine setB_app ?_ | rw [getB_app] | rw [getB_app0] | refine addB_f1 ?_ | refine addB_f0 ?_); conv => whnf)
      exact ⟨rfl, _, rfl⟩
end
end Go.Proofs.YtgoljofmbidkfaaGreatDoor
