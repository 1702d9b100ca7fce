/- Package mass; what the statements of layer 15 ask first. No condition. -/
import Derived.Test.YthoofdnnfahhaaaGreatDoorTb
namespace Go.Proofs.YthoofdnnfahhaaaGreatDoor
open Go Go.Eng
set_option maxRecDepth 100000
set_option linter.unusedSimpArgs false
set_option linter.unusedVariables false

abbrev U64 (n : Int) : V := .int .u64 n
theorem add64_ok (x y c : Nat) (hc : c = 0 ∨ c = 1) (m : List Blk) : COk Tryz.prog 3 177 [U64 x, U64 y, U64 c] m (.tup [U64 ((x + y + c) % 18446744073709551616 : Nat), U64 ((x + y + c) / 18446744073709551616 : Nat)]) m := by
  refine COk_ext fun n g w xs h => ?_
  obtain ⟨_, _, rfl, rfl, _, _, rfl, rfl, _, _, rfl, rfl, rfl⟩ := h
  rcases hc with rfl | rfl
  · exact ⟨.tuple #[.int .u64 (Int.ofNat ((x + y + 0) % 18446744073709551616)), .int .u64 (Int.ofNat ((x + y + 0) / 18446744073709551616))], w, by kernel_rfl, ⟨_, rfl, _, _, rfl, rfl, _, _, rfl, rfl, rfl⟩, Drew.refl w⟩
  · exact ⟨.tuple #[.int .u64 (Int.ofNat ((x + y + 1) % 18446744073709551616)), .int .u64 (Int.ofNat ((x + y + 1) / 18446744073709551616))], w, by kernel_rfl, ⟨_, rfl, _, _, rfl, rfl, _, _, rfl, rfl, rfl⟩, Drew.refl w⟩
theorem sub64_ok (x y c : Nat) (hc : c = 0 ∨ c = 1) (m : List Blk) : COk Tryz.prog 3 178 [U64 x, U64 y, U64 c] m (.tup [U64 ((x + 18446744073709551616 - y - c) % 18446744073709551616 : Nat), U64 ((if x < y + c then 1 else 0 : Nat))]) m := by
  refine COk_ext fun n g w xs h => ?_
  obtain ⟨_, _, rfl, rfl, _, _, rfl, rfl, _, _, rfl, rfl, rfl⟩ := h
  rcases hc with rfl | rfl
  · exact ⟨.tuple #[.int .u64 (Int.ofNat ((x + 18446744073709551616 - y - 0) % 18446744073709551616)), .int .u64 (Int.ofNat (if x < y + 0 then 1 else 0))], w, by kernel_rfl, ⟨_, rfl, _, _, rfl, rfl, _, _, rfl, rfl, rfl⟩, Drew.refl w⟩
  · exact ⟨.tuple #[.int .u64 (Int.ofNat ((x + 18446744073709551616 - y - 1) % 18446744073709551616)), .int .u64 (Int.ofNat (if x < y + 1 then 1 else 0))], w, by kernel_rfl, ⟨_, rfl, _, _, rfl, rfl, _, _, rfl, rfl, rfl⟩, Drew.refl w⟩
/-- The same over whole numbers. -/
theorem add64_z {a b c s k : Int} (ha : 0 ≤ a) (hb : 0 ≤ b) (hc : c = 0 ∨ c = 1) (hs : (a + b + c) % 18446744073709551616 = s) (hk : (a + b + c) / 18446744073709551616 = k) (m : List Blk) : COk Tryz.prog 3 177 [U64 a, U64 b, U64 c] m (.tup [U64 s, U64 k]) m := by
  have := add64_ok a.toNat b.toNat c.toNat (by omega) m
  rw [show ((a.toNat : Nat) : Int) = a by omega, show ((b.toNat : Nat) : Int) = b by omega, show ((c.toNat : Nat) : Int) = c by omega,
    show (((a.toNat + b.toNat + c.toNat) % 18446744073709551616 : Nat) : Int) = s by omega, show (((a.toNat + b.toNat + c.toNat) / 18446744073709551616 : Nat) : Int) = k by omega] at this
  exact this
theorem sub64_z {a b c s k : Int} (ha : 0 ≤ a) (hb : 0 ≤ b ∧ b < 18446744073709551616) (hc : c = 0 ∨ c = 1) (hs : (a + 18446744073709551616 - b - c) % 18446744073709551616 = s) (hk : (if a < b + c then 1 else 0) = k) (m : List Blk) : COk Tryz.prog 3 178 [U64 a, U64 b, U64 c] m (.tup [U64 s, U64 k]) m := by
  have := sub64_ok a.toNat b.toNat c.toNat (by omega) m
  rw [show ((a.toNat : Nat) : Int) = a by omega, show ((b.toNat : Nat) : Int) = b by omega, show ((c.toNat : Nat) : Int) = c by omega,
    show (((a.toNat + 18446744073709551616 - b.toNat - c.toNat) % 18446744073709551616 : Nat) : Int) = s by omega, show (((if a.toNat < b.toNat + c.toNat then 1 else 0 : Nat) : Nat) : Int) = k by rw [← hk]; split <;> split <;> omega] at this
  exact this
/-- A sum, as the two words. -/
abbrev wideV (z : Int) : V := .agg [U64 (hiZ z), U64 (loZ z)]
theorem shr_id (x : Int) : x.fdiv (2 ^ min (Int.toNat 63) IntKind.i64.bits) = x / 9223372036854775808 := by
  rw [show (2 : Int) ^ min (Int.toNat 63) IntKind.i64.bits = 9223372036854775808 from rfl, Int.fdiv_eq_ediv_of_nonneg _ (by omega)]
theorem wrapU_bd (n : Int) : 0 ≤ IntKind.u64.wrap n ∧ IntKind.u64.wrap n < 18446744073709551616 := by rw [wrapU_mod]; omega
theorem wplus_ok (z x : Int) (h : -9223372036854775808 ≤ x ∧ x < 9223372036854775808) (m : List Blk) : COk Tryz.prog 3 102 [wideV z, .int .i64 x] m (wideV (z + x)) m := by
  refine COk_quiet Tryz.f102 Tryz.func102 (by kernel_rfl) rfl ?_
  have h1 := hiZ_bd z
  have h2 := loZ_bd z
  have h3 := wrapU_bd x
  have h4 := wrapU_bd (x / 9223372036854775808)
  (conv => whnf); repeat ((first | refine ⟨_, _, add64_z (by omega) (by omega) (.inl rfl) rfl rfl _, ?_⟩ | refine ⟨_, _, add64_z (by omega) (by rw [shr_id]; omega) (by omega) rfl rfl _, ?_⟩ | refine setB_app ?_ | rw [getB_app] | rw [getB_app0] | refine addB_f1 ?_ | refine addB_f0 ?_); conv => whnf)
  refine ⟨?_, _, rfl⟩
  rw [shr_id, Int.add_zero, add_hi h, add_lo]
theorem wminus_ok (z x : Int) (h : -9223372036854775808 ≤ x ∧ x < 9223372036854775808) (m : List Blk) : COk Tryz.prog 3 103 [wideV z, .int .i64 x] m (wideV (z - x)) m := by
  refine COk_quiet Tryz.f103 Tryz.func103 (by kernel_rfl) rfl ?_
  have h1 := hiZ_bd z
  have h2 := loZ_bd z
  have h3 := wrapU_bd x
  have h4 := wrapU_bd (x / 9223372036854775808)
  (conv => whnf); repeat ((first | refine ⟨_, _, sub64_z (by omega) (by omega) (.inl rfl) rfl rfl _, ?_⟩ | refine ⟨_, _, sub64_z (by omega) (by rw [shr_id]; omega) (by split <;> omega) rfl rfl _, ?_⟩ | refine setB_app ?_ | rw [getB_app] | rw [getB_app0] | refine addB_f1 ?_ | refine addB_f0 ?_); conv => whnf)
  refine ⟨?_, _, rfl⟩
  rw [shr_id, Int.sub_zero, Int.add_zero, sub_hi h, sub_lo]
theorem wnarrow_ok (z : Int) (h : -170141183460469231731687303715884105728 ≤ z ∧ z < 170141183460469231731687303715884105728) (m : List Blk) :
    COk Tryz.prog 3 104 [wideV z] m (.tup [.int .i64 (IntKind.i64.wrap (loZ z)), Bo (decide (-9223372036854775808 ≤ z ∧ z < 9223372036854775808))]) m := by
  refine COk_quiet Tryz.f104 Tryz.func104 (by kernel_rfl) rfl ?_
  (conv => whnf); repeat ((first | rw [getB_app0] | refine addB_f0 ?_); conv => whnf)
  refine ⟨?_, _, rfl⟩
  rw [shr_id]
  have := narrow_ok h
  congr 3
  by_cases hz : -9223372036854775808 ≤ z ∧ z < 9223372036854775808
  · rw [decide_eq_true hz]; simpa using this.2 hz
  · rw [decide_eq_false hz]; simpa using fun e => hz (this.1 e)
def totalV (s : Int) : V := if in64 s then .tup [.int .i64 s, I 0] else .tup [.int .i64 0, I 20]
theorem wplus_at {a b z x : Int} (ha : a = hiZ z) (hb : b = loZ z) (h : in64 x) (m : List Blk) : COk Tryz.prog 3 102 [.agg [U64 a, U64 b], .int .i64 x] m (wideV (z + x)) m := by
  subst ha hb; exact wplus_ok z x h m
theorem wminus_at {a b z x : Int} (ha : a = hiZ z) (hb : b = loZ z) (h : in64 x) (m : List Blk) : COk Tryz.prog 3 103 [.agg [U64 a, U64 b], .int .i64 x] m (wideV (z - x)) m := by
  subst ha hb; exact wminus_ok z x h m
theorem wnarrow_at {a b z : Int} (ha : a = hiZ z) (hb : b = loZ z) (h : -170141183460469231731687303715884105728 ≤ z ∧ z < 170141183460469231731687303715884105728) (m : List Blk) :
    COk Tryz.prog 3 104 [.agg [U64 a, U64 b]] m (.tup [.int .i64 (IntKind.i64.wrap (loZ z)), Bo (decide (in64 z))]) m := by
  subst ha hb; exact wnarrow_ok z h m
theorem tot_yes {s : Int} (h : in64 s) : totalV s = .tup [.int .i64 (IntKind.i64.wrap (loZ s)), I 0] := by rw [totalV, if_pos h, narrow_val h]
theorem tot_no {s : Int} (h : ¬ in64 s) : totalV s = .tup [.int .i64 0, I 20] := if_neg h
set_option maxHeartbeats 0 in
theorem total_ok {M : List Blk} (hng : 3 ≤ M.length) (hsc : scM M.length M = true) {v1 v2 : V} {l1 l2 : List Int} (h1 : Sli M v1 l1) (h2 : Sli M v2 l2) : COk Tryz.prog 3 101 [v1, v2] M (totalV (ps l1 l1.length + ps l2 l2.length)) M := by
  have w1 := h1.wf
  have w2 := h2.wf
  have b1 := ps_bd w1.1 l1.length (Nat.le_refl _)
  have b2 := ps_bd w2.1 l2.length (Nat.le_refl _)
  have hr : (totalV (ps l1 l1.length + ps l2 l2.length)).sc M.length = true := by unfold totalV; split <;> rfl
  have hbd : -170141183460469231731687303715884105728 ≤ ps l1 l1.length + ps l2 l2.length ∧ ps l1 l1.length + ps l2 l2.length < 170141183460469231731687303715884105728 := by omega
  have fin : ∀ s, s = ps l1 l1.length + ps l2 l2.length → ps l1 l1.length + ps l2 l2.length = s := fun s h => h.symm
  have e1 : pz l1 0 l1.length = ps l1 l1.length := by rw [pz_ps]; omega
  have e2 : pz l2 (pz l1 0 l1.length) l2.length = ps l1 l1.length + ps l2 l2.length := by rw [pz_ps, e1]
  have e3 : pz l2 0 l2.length = ps l2 l2.length := by rw [pz_ps]; omega
  rcases h2 with ⟨rfl, rfl⟩ | ⟨j2, o2, rfl, h2⟩ <;> rcases h1 with ⟨rfl, rfl⟩ | ⟨j1, o1, rfl, h1⟩
  all_goals
    refine COk_quiet Tryz.f101 Tryz.func101 (by kernel_rfl) hr ?_
  · (conv => whnf); repeat ((first | refine lr ?_ | refine ⟨_, _, wnarrow_at (z := 0) rfl rfl (by omega) _, ?_⟩ | rw [getB_app] | rw [getB_app0] | refine addB_f1 ?_ | refine addB_f0 ?_); conv => whnf)
    exact ⟨rfl, _, rfl⟩
  · have hj := h1.lt
    (conv => whnf); repeat ((first | refine addB_f1 ?_ | refine addB_f0 ?_); conv => whnf)
    refine lr ?_
    (conv => whnf); repeat (rw [getB_app]; conv => whnf)
    refine loop_to (fun k => [.any, .any, .any, .any, .any, .any, .ptr M.length 0, .any, .any, .any, .any, .any, .any, .any, .any, .sl (M.length + 1) 0 2, I 2, I 0, .any, .any, .any, .sl j1 o1 (l1).length, I (l1).length, I k, .any, .any, .any, .any, .any, .any, .any, .any, .any, .any, .any, .any, .any, .any, .any, .any]) (fun k => M ++ [⟨true, .cells [U64 (hiZ (pz l1 0 k)), U64 (loZ (pz l1 0 k))]⟩, ⟨true, .cells [.sl j1 o1 l1.length, nilS']⟩]) 0 (l1).length (Nat.zero_le _) ?_ ?_ ?_
    · refine Fg.of [] ?_ (by rw [List.append_nil]; rfl) (by simp) (by (simp [scL, V.sc]) <;> omega) (scM_app (scM_mono (by simp) _ hsc) (by (simp [scM, B.sc, scL, V.sc]) <;> omega))
      conv => whnf
      exact ⟨rfl, rfl, rfl, rfl, rfl, rfl, rfl, rfl⟩
    · intro k _ hk
      (conv => whnf); repeat ((first | refine SlI.at (h1.app _) (i := k) (by omega) rfl ?_ | refine ⟨_, _, wplus_at (z := pz l1 0 k) rfl rfl (w1.1 k hk) _, ?_⟩ | refine br_d (by omega) ?_ | refine setB_app0 ?_ | rw [getB_app0]); conv => whnf)
      refine Fg.of [] ?_ (by rw [List.append_nil]; rfl) (by simp) (by (simp [scL, V.sc]) <;> omega) (scM_app (scM_mono (by simp) _ hsc) (by (simp [scM, B.sc, scL, V.sc]) <;> omega))
      conv => whnf
      exact ⟨rfl, rfl, rfl, rfl, rfl, rfl, wrapKL (by omega), rfl⟩
    · (conv => whnf); repeat ((first | refine lr ?_ | refine ⟨_, _, wnarrow_at (z := pz l1 0 l1.length) rfl rfl (by rw [pz_ps]; omega) _, ?_⟩ | refine br_nd (by omega) ?_ | rw [getB_app] | rw [getB_app0]); conv => whnf)
      by_cases hin : in64 (pz l1 0 l1.length)
      · refine br_not (br_d hin ?_)
        conv => whnf
        refine ⟨?_, _, rfl⟩
        rw [← (show pz l1 0 l1.length = ps l1 l1.length + ps [] ([] : List Int).length by rw [e1]; simp [ps]), tot_yes hin]
      · refine br_not (br_nd hin ?_)
        conv => whnf
        refine ⟨?_, _, rfl⟩
        rw [← (show pz l1 0 l1.length = ps l1 l1.length + ps [] ([] : List Int).length by rw [e1]; simp [ps]), tot_no hin]
  · have hj := h2.lt
    (conv => whnf); repeat ((first | refine addB_f1 ?_ | refine addB_f0 ?_); conv => whnf)
    iterate 2
      refine lr ?_
      (conv => whnf); repeat (rw [getB_app]; conv => whnf)
    refine lr ?_
    (conv => whnf); repeat (rw [getB_app]; conv => whnf)
    refine loop_to (fun k => [.any, .any, .any, .any, .any, .any, .ptr M.length 0, .any, .any, .any, .any, .any, .any, .any, .any, .sl (M.length + 1) 0 2, I 2, I 1, .any, .any, .any, .sl j2 o2 (l2).length, I (l2).length, I k, .any, .any, .any, .any, .any, .any, .any, .any, .any, .any, .any, .any, .any, .any, .any, .any]) (fun k => M ++ [⟨true, .cells [U64 (hiZ (pz l2 0 k)), U64 (loZ (pz l2 0 k))]⟩, ⟨true, .cells [nilS', .sl j2 o2 l2.length]⟩]) 0 (l2).length (Nat.zero_le _) ?_ ?_ ?_
    · refine Fg.of [] ?_ (by rw [List.append_nil]; rfl) (by simp) (by (simp [scL, V.sc]) <;> omega) (scM_app (scM_mono (by simp) _ hsc) (by (simp [scM, B.sc, scL, V.sc]) <;> omega))
      conv => whnf
      exact ⟨rfl, rfl, rfl, rfl, rfl, rfl, rfl, rfl⟩
    · intro k _ hk
      (conv => whnf); repeat ((first | refine SlI.at (h2.app _) (i := k) (by omega) rfl ?_ | refine ⟨_, _, wplus_at (z := pz l2 0 k) rfl rfl (w2.1 k hk) _, ?_⟩ | refine br_d (by omega) ?_ | refine setB_app0 ?_ | rw [getB_app0]); conv => whnf)
      refine Fg.of [] ?_ (by rw [List.append_nil]; rfl) (by simp) (by (simp [scL, V.sc]) <;> omega) (scM_app (scM_mono (by simp) _ hsc) (by (simp [scM, B.sc, scL, V.sc]) <;> omega))
      conv => whnf
      exact ⟨rfl, rfl, rfl, rfl, rfl, rfl, wrapKL (by omega), rfl⟩
    · (conv => whnf); repeat ((first | refine lr ?_ | refine ⟨_, _, wnarrow_at (z := pz l2 0 l2.length) rfl rfl (by rw [pz_ps]; omega) _, ?_⟩ | refine br_nd (by omega) ?_ | rw [getB_app0]); conv => whnf)
      by_cases hin : in64 (pz l2 0 l2.length)
      · refine br_not (br_d hin ?_)
        conv => whnf
        refine ⟨?_, _, rfl⟩
        rw [← (show pz l2 0 l2.length = ps [] ([] : List Int).length + ps l2 l2.length by rw [e3]; simp [ps]), tot_yes hin]
      · refine br_not (br_nd hin ?_)
        conv => whnf
        refine ⟨?_, _, rfl⟩
        rw [← (show pz l2 0 l2.length = ps [] ([] : List Int).length + ps l2 l2.length by rw [e3]; simp [ps]), tot_no hin]
  · have hj := h2.lt
    have hj1 := h1.lt
    (conv => whnf); repeat ((first | refine addB_f1 ?_ | refine addB_f0 ?_); conv => whnf)
    refine lr ?_
    (conv => whnf); repeat (rw [getB_app]; conv => whnf)
    refine loop_to (fun k => [.any, .any, .any, .any, .any, .any, .ptr M.length 0, .any, .any, .any, .any, .any, .any, .any, .any, .sl (M.length + 1) 0 2, I 2, I 0, .any, .any, .any, .sl j1 o1 (l1).length, I (l1).length, I k, .any, .any, .any, .any, .any, .any, .any, .any, .any, .any, .any, .any, .any, .any, .any, .any]) (fun k => M ++ [⟨true, .cells [U64 (hiZ (pz l1 0 k)), U64 (loZ (pz l1 0 k))]⟩, ⟨true, .cells [.sl j1 o1 l1.length, .sl j2 o2 l2.length]⟩]) 0 (l1).length (Nat.zero_le _) ?_ ?_ ?_
    · refine Fg.of [] ?_ (by rw [List.append_nil]; rfl) (by simp) (by (simp [scL, V.sc]) <;> omega) (scM_app (scM_mono (by simp) _ hsc) (by (simp [scM, B.sc, scL, V.sc]) <;> omega))
      conv => whnf
      exact ⟨rfl, rfl, rfl, rfl, rfl, rfl, rfl, rfl⟩
    · intro k _ hk
      (conv => whnf); repeat ((first | refine SlI.at (h1.app _) (i := k) (by omega) rfl ?_ | refine ⟨_, _, wplus_at (z := pz l1 0 k) rfl rfl (w1.1 k hk) _, ?_⟩ | refine br_d (by omega) ?_ | refine setB_app0 ?_ | rw [getB_app0]); conv => whnf)
      refine Fg.of [] ?_ (by rw [List.append_nil]; rfl) (by simp) (by (simp [scL, V.sc]) <;> omega) (scM_app (scM_mono (by simp) _ hsc) (by (simp [scM, B.sc, scL, V.sc]) <;> omega))
      conv => whnf
      exact ⟨rfl, rfl, rfl, rfl, rfl, rfl, wrapKL (by omega), rfl⟩
    · (conv => whnf); repeat (refine br_nd (by omega) ?_; conv => whnf)
      refine lr ?_
      (conv => whnf); repeat (rw [getB_app]; conv => whnf)
      refine loop_to (fun k => [.any, .any, .any, .any, .any, .any, .ptr M.length 0, .any, .any, .any, .any, .any, .any, .any, .any, .sl (M.length + 1) 0 2, I 2, I 1, .any, .any, .any, .sl j2 o2 (l2).length, I (l2).length, I k, .any, .any, .any, .any, .any, .any, .any, .any, .any, .any, .any, .any, .any, .any, .any, .any]) (fun k => M ++ [⟨true, .cells [U64 (hiZ (pz l2 (pz l1 0 l1.length) k)), U64 (loZ (pz l2 (pz l1 0 l1.length) k))]⟩, ⟨true, .cells [.sl j1 o1 l1.length, .sl j2 o2 l2.length]⟩]) 0 (l2).length (Nat.zero_le _) ?_ ?_ ?_
      · refine Fg.of [] ?_ (by rw [List.append_nil]; rfl) (by simp) (by (simp [scL, V.sc]) <;> omega) (scM_app (scM_mono (by simp) _ hsc) (by (simp [scM, B.sc, scL, V.sc]) <;> omega))
        conv => whnf
        exact ⟨rfl, rfl, rfl, rfl, rfl, rfl, rfl, rfl⟩
      · intro k _ hk
        (conv => whnf); repeat ((first | refine SlI.at (h2.app _) (i := k) (by omega) rfl ?_ | refine ⟨_, _, wplus_at (z := pz l2 (pz l1 0 l1.length) k) rfl rfl (w2.1 k hk) _, ?_⟩ | refine br_d (by omega) ?_ | refine setB_app0 ?_ | rw [getB_app0]); conv => whnf)
        refine Fg.of [] ?_ (by rw [List.append_nil]; rfl) (by simp) (by (simp [scL, V.sc]) <;> omega) (scM_app (scM_mono (by simp) _ hsc) (by (simp [scM, B.sc, scL, V.sc]) <;> omega))
        conv => whnf
        exact ⟨rfl, rfl, rfl, rfl, rfl, rfl, wrapKL (by omega), rfl⟩
      · (conv => whnf); repeat ((first | refine lr ?_ | refine ⟨_, _, wnarrow_at (z := pz l2 (pz l1 0 l1.length) l2.length) rfl rfl (by rw [pz_ps, pz_ps]; omega) _, ?_⟩ | refine br_nd (by omega) ?_ | rw [getB_app0]); conv => whnf)
        by_cases hin : in64 (pz l2 (pz l1 0 l1.length) l2.length)
        · refine br_not (br_d hin ?_)
          conv => whnf
          refine ⟨?_, _, rfl⟩
          rw [← e2, tot_yes hin]
        · refine br_not (br_nd hin ?_)
          conv => whnf
          refine ⟨?_, _, rfl⟩
          rw [← e2, tot_no hin]

/-- Sums by cells, as words. -/
def wF (F : Nat → Int) (i : Nat) : Int := if i % 2 = 0 then hiZ (F (i / 2)) else loZ (F (i / 2))
theorem get_w0 {N k : Nat} {F : Nat → Int} (h : k < N) : (tab (N * 2) (wF F)).getD (0 + k * 2) 0 = hiZ (F k) := by
  rw [tab_get (by omega), wF, if_pos (by omega), show (0 + k * 2) / 2 = k by omega]
theorem get_w1 {N k : Nat} {F : Nat → Int} (h : k < N) : (tab (N * 2) (wF F)).getD (0 + k * 2 + 1) 0 = loZ (F k) := by
  rw [tab_get (by omega), wF, if_neg (by omega), show (0 + k * 2 + 1) / 2 = k by omega]
theorem blt_w0 {N k : Nat} {G : Nat → Int} (h : k < N) : Nat.blt (0 + k * 2) (tab (N * 2) G).length = true := by simp [tab_len]; omega
theorem blt_w1 {N k : Nat} {G : Nat → Int} (h : k < N) : Nat.blt (0 + k * 2 + 1) (tab (N * 2) G).length = true := by simp [tab_len]; omega
theorem blt_w2 {N k i : Nat} {v : Int} {G : Nat → Int} (h : k < N) : Nat.blt (0 + k * 2 + 1) ((tab (N * 2) G).set i v).length = true := by simp [tab_len]; omega
theorem set_w {N k : Nat} (F : Nat → Int) (z : Int) (h : k < N) : ((tab (N * 2) (wF F)).set (0 + k * 2) (hiZ z)).set (0 + k * 2 + 1) (loZ z) = tab (N * 2) (wF fun c => if c = k then z else F c) := by
  rw [tab_set, tab_set]
  refine tab_congr fun i _ => ?_
  unfold wF
  by_cases h1 : i = 0 + k * 2 + 1
  · simp only [if_pos h1, if_neg (show ¬ i % 2 = 0 by omega), if_pos (show i / 2 = k by omega)]
  · by_cases h2 : i = 0 + k * 2
    · simp only [if_neg h1, if_pos h2, if_pos (show i % 2 = 0 by omega), if_pos (show i / 2 = k by omega)]
    · have h3 : ¬ i / 2 = k := by omega
      simp only [if_neg h1, if_neg h2, if_neg h3]
theorem wF_congr {N : Nat} {F G : Nat → Int} (h : ∀ c, c < N → F c = G c) : tab (N * 2) (wF F) = tab (N * 2) (wF G) := by
  refine tab_congr fun i hi => ?_
  unfold wF
  rw [h (i / 2) (by omega)]
theorem zero_w (N : Nat) : List.replicate (N * 2) (0 : Int) = tab (N * 2) (wF fun _ => 0) := by
  rw [tab_rep]
  refine tab_congr fun i _ => ?_
  unfold wF hiZ loZ
  split <;> rfl
theorem blt_t {N k : Nat} {G : Nat → Int} (h : k < N) : Nat.blt (0 + k * 1) (tab N G).length = true := by simp [tab_len]; omega
theorem wnarrow_yes {a b z : Int} (ha : a = hiZ z) (hb : b = loZ z) (h : in64 z) (m : List Blk) : COk Tryz.prog 3 104 [.agg [U64 a, U64 b]] m (.tup [.int .i64 z, Bo true]) m := by
  have := wnarrow_at ha hb ⟨by omega, by omega⟩ m
  rwa [narrow_val h, decide_eq_true h] at this
theorem wnarrow_not {a b z : Int} (ha : a = hiZ z) (hb : b = loZ z) (h : ¬ in64 z) (hz : -170141183460469231731687303715884105728 ≤ z ∧ z < 170141183460469231731687303715884105728) (m : List Blk) :
    COk Tryz.prog 3 104 [.agg [U64 a, U64 b]] m (.tup [.int .i64 (IntKind.i64.wrap (loZ z)), Bo false]) m := by
  have := wnarrow_at ha hb hz m
  rwa [decide_eq_false h] at this
/-- What comes into a cell by the first k flows. -/
def dl (n : Nat) (f : Nat → Int) : Nat → Nat → Int
  | 0, _ => 0
  | k + 1, c => match (edges n)[k]? with
    | some x => dl n f k c + ((if x.1 = c then -f k else 0) + if x.2.2.1 = c then f k else 0)
    | none => dl n f k c
theorem dl_step {n k : Nat} {f : Nat → Int} {x : Ed} (hx : (edges n)[k]? = some x) (c : Nat) : dl n f (k + 1) c = dl n f k c + ((if x.1 = c then -f k else 0) + if x.2.2.1 = c then f k else 0) := by
  simp only [dl, hx]
theorem dl_bd {n : Nat} {f : Nat → Int} {K : Nat} (h : ∀ i, i < K → in64 (f i)) (c : Nat) : ∀ k, k ≤ K → -(18446744073709551616 * (k : Int)) ≤ dl n f k c ∧ dl n f k c ≤ 18446744073709551616 * (k : Int)
  | 0, _ => by simp [dl]
  | k + 1, hk => by
    have h1 := dl_bd (n := n) h c k (by omega)
    have h2 := h k (by omega)
    simp only [dl]
    split
    · split <;> split <;> omega
    · omega
def fL (l : List Int) (i : Nat) : Int := l.getD i 0
/-- What a cell has behind the flows. -/
def tot (n : Nat) (w f : List Int) (c : Nat) : Int := w.getD c 0 + dl n (fL f) f.length c
def movF (k : Nat) (G : Nat → Int) (c : Nat) : Int := if c < k then G c else 0
theorem step1 {N k : Nat} (G : Nat → Int) (h : k < N) : ((tab (N * 2) (wF (movF k G))).set (0 + k * 2) (hiZ (movF k G k + G k))).set (0 + k * 2 + 1) (loZ (movF k G k + G k)) = tab (N * 2) (wF (movF (k + 1) G)) := by
  rw [set_w _ _ h]
  refine wF_congr fun c _ => ?_
  unfold movF
  by_cases h1 : c = k
  · subst h1; simp
  · rw [if_neg h1]
    by_cases h2 : c < k
    · rw [if_pos h2, if_pos (by omega)]
    · rw [if_neg h2, if_neg (by omega)]
def fdn (F : Nat → Int) (a : Nat) (v : Int) (c : Nat) : Int := if c = a then F a - v else F c
def fup (F : Nat → Int) (a : Nat) (v : Int) (c : Nat) : Int := if c = a then F a + v else F c
theorem step2 {N n k : Nat} {w : List Int} {f : Nat → Int} {x : Ed} (hx : (edges n)[k]? = some x) (hne : x.1 ≠ x.2.2.1) :
    tab (N * 2) (wF (fup (fdn (fun c => w.getD c 0 + dl n f k c) x.1 (f k)) x.2.2.1 (f k))) = tab (N * 2) (wF fun c => w.getD c 0 + dl n f (k + 1) c) := by
  refine wF_congr fun c _ => ?_
  simp only [dl_step hx, fup, fdn]
  by_cases h1 : c = x.2.2.1
  · subst h1
    rw [if_pos rfl, if_neg (Ne.symm hne), if_neg hne, if_pos rfl]; omega
  · rw [if_neg h1, if_neg (Ne.symm h1)]
    by_cases h2 : c = x.1
    · subst h2
      rw [if_pos rfl, if_pos rfl]; omega
    · rw [if_neg h2, if_neg (Ne.symm h2)]; omega
theorem setB_as {M l : List Blk} {k : Nat} {c c' : Blk} {K : List Blk → Prop} (e : c = c') (h : K (M ++ l.set k c')) : setB (M ++ l) (M.length + k) c K := setB_app (by rw [e]; exact h)
theorem setB_as0 {M l : List Blk} {c c' : Blk} {K : List Blk → Prop} (e : c = c') (h : K (M ++ l.set 0 c')) : setB (M ++ l) M.length c K := setB_app0 (by rw [e]; exact h)
theorem u64_blk {L L' : List Int} (h : L = L') : (⟨true, .ints .u64 L⟩ : Blk) = ⟨true, .ints .u64 L'⟩ := by rw [h]
theorem i64_blk {L L' : List Int} (h : L = L') : (⟨true, .ints .i64 L⟩ : Blk) = ⟨true, .ints .i64 L'⟩ := by rw [h]
theorem zero_t (N : Nat) : List.replicate (N * 1) (0 : Int) = tab N fun _ => 0 := by rw [Nat.mul_one, tab_rep]
theorem step3 {N k : Nat} (G : Nat → Int) : (tab N (movF k G)).set (0 + k * 1) (G k) = tab N (movF (k + 1) G) := by
  rw [tab_set]
  refine tab_congr fun c _ => ?_
  unfold movF
  by_cases h1 : c = 0 + k * 1
  · rw [if_pos h1, if_pos (by omega), show k = c by omega]
  · rw [if_neg h1]
    by_cases h2 : c < k
    · rw [if_pos h2, if_pos (by omega)]
    · rw [if_neg h2, if_neg (by omega)]
theorem start2 (n : Nat) (f : Nat → Int) (w : List Int) : tab (w.length * 2) (wF (movF w.length (fL w))) = tab (w.length * 2) (wF fun c => w.getD c 0 + dl n f 0 c) := by
  refine wF_congr fun c hc => ?_
  rw [movF, if_pos hc]
  simp only [dl, fL, Int.add_zero]
theorem end3 {N : Nat} (G : Nat → Int) : tab N (movF N G) = tab N G := tab_congr fun c hc => by rw [movF, if_pos hc]
section
variable {M : List Blk} {b n j1 o1 j2 o2 : Nat} {w f : List Int} (hng : 3 ≤ M.length) (hsc : scM M.length M = true) (hN : Net M b n) (hn : 1 ≤ n) (hn' : n ≤ 32) (h1 : SlI M j1 o1 w) (h2 : SlI M j2 o2 f) (hw : w.length = 6 * (n * n)) (hf : f.length = (edges n).length)
include hng hsc hN hn hn' h1 h2 hw hf
set_option maxHeartbeats 0 in
theorem move_ok (hg : ∀ c, c < w.length → 0 ≤ tot n w f c ∧ tot n w f c < 9223372036854775808) :
    COk Tryz.prog 3 36 [.ptr (b + 1) 0, .sl j1 o1 w.length, .sl j2 o2 f.length] M (.tup [.sl (M.length + 1) 0 w.length, I 0])
      (M ++ [⟨true, .ints .u64 (tab (w.length * 2) (wF (tot n w f)))⟩, ⟨true, .ints .i64 (tab w.length (tot n w f))⟩]) := by
  have _hng := hng
  have hj1 := h1.lt
  have hj2 := h2.lt
  have hb := hN.lt
  have hnn : 1 ≤ n * n ∧ n * n ≤ 1024 := ⟨Nat.mul_pos hn hn, Nat.mul_le_mul hn' hn'⟩
  have hel := edges_len hn
  refine COk_of_ev Tryz.f36 Tryz.func36 (by kernel_rfl) (by simp) (by simp [V.sc, scL]) (.inr (scM_app (scM_mono (by simp) _ hsc) rfl)) ?_
  (conv => whnf); repeat ((first | refine ⟨_, _, gcells_ok hN, ?_⟩ | refine ⟨_, _, gedges_ok hN, ?_⟩ | refine br_d ⟨by omega, by omega, by omega, (by show (16 : Int) * _ ≤ 2 ^ 48; omega)⟩ ?_ | refine br_no (bo_eqn (by omega)) ?_ | refine Or.inl ?_ | refine addB_f0 ?_); conv => whnf)
  refine loop_to (fun k => [.ptr (b + 1) 0, .sl j1 o1 w.length, .sl j2 o2 f.length, .any, .any, .any, .any, .any, .sl M.length 0 w.length, .any, .any, .any, .any, .any, .any, .any, .any, .any, .any, .any, .any, .any, .any, .any, .any, .any, .any, .any, .any, .any, .any, .any, .any, .any, .any, .any, .any, .sl j1 o1 w.length, I w.length, I k, .any, .any, .any, .any, .any, .any, .any, .any, .any, .any, .any, .any, .any, .any, .any, .any, .any, .any, .any, .any, .any, .any, .any, .any, .any, .any, .any, .any, .any, .any, .any, .any, .any, .any, .any, .any, .any, .any, .any, .any, .any, .any, .any, .any, .any, .any, .any, .any, .any, .any, .any, .any, .any, .any, .any, .any, .any, .any, .any, .any, .any, .any, .any, .any, .any, .any, .any, .any, .any, .any, .any, .any, .any, .any, .any, .any, .any]) (fun k => M ++ [⟨true, .ints .u64 (tab (w.length * 2) (wF (movF k (fL w))))⟩]) 0 w.length (Nat.zero_le _) ?_ ?_ ?_
  · refine Fg.of [] ?_ (by rw [List.append_nil]; exact congrArg (fun L => M ++ [⟨true, .ints .u64 L⟩]) (zero_w w.length)) (by simp) (by (simp [scL, V.sc]) <;> omega) (scM_app (scM_mono (by simp) _ hsc) rfl)
    conv => whnf
    exact ⟨rfl, rfl, rfl, rfl, rfl, rfl, rfl, rfl⟩
  · intro k _ hk
    (conv => whnf); repeat ((first | refine SlI.at (h1.app _) (i := k) hk rfl ?_ | refine br_yes (blt_w0 hk) ?_ | refine br_yes (blt_w1 hk) ?_ | refine br_yes (blt_w2 hk) ?_ | refine ⟨_, _, wplus_at (z := movF k (fL w) k) (get_w0 hk) (get_w1 hk) (h1.wf k hk) _, ?_⟩ | refine setB_as0 (u64_blk (step1 (fL w) hk)) ?_ | refine br_d (by omega) ?_ | rw [getB_app0]); conv => whnf)
    refine Fg.of [] ?_ (by rw [List.append_nil]; rfl) (by simp) (by (simp [scL, V.sc]) <;> omega) (scM_app (scM_mono (by simp) _ hsc) rfl)
    conv => whnf
    exact ⟨rfl, rfl, rfl, rfl, rfl, rfl, wrapKL (by omega), rfl⟩
  · (conv => whnf); repeat (refine br_nd (by omega) ?_; conv => whnf)
    refine loop_to (fun k => [.ptr (b + 1) 0, .sl j1 o1 w.length, .sl j2 o2 f.length, .any, .any, .any, .any, .any, .sl M.length 0 w.length, .any, .any, .any, .any, .any, .any, .any, .any, .any, .any, .any, .any, .any, .any, .any, .any, .any, .any, .any, .any, .any, .any, .any, .any, .any, .any, .any, .any, .any, .any, .any, .any, .any, .any, .any, .any, .any, .any, .any, .any, .any, .any, .any, .any, .any, .sl j2 o2 f.length, I f.length, I k, .any, .any, .any, .any, .any, .any, .any, .any, .any, .any, .any, .any, .any, .any, .any, .any, .any, .any, .any, .any, .any, .any, .any, .any, .any, .any, .any, .any, .any, .any, .any, .any, .any, .any, .any, .any, .any, .any, .any, .any, .any, .any, .any, .any, .any, .any, .any, .any, .any, .any, .any, .any, .any, .any, .any, .any, .any, .any, .any, .any]) (fun k => M ++ [⟨true, .ints .u64 (tab (w.length * 2) (wF fun c => w.getD c 0 + dl n (fL f) k c))⟩]) 0 f.length (Nat.zero_le _) ?_ ?_ ?_
    · refine Fg.of [] ?_ (by rw [List.append_nil]; exact congrArg (fun L => M ++ [⟨true, .ints .u64 L⟩]) (start2 n (fL f) w)) (by simp) (by (simp [scL, V.sc]) <;> omega) (scM_app (scM_mono (by simp) _ hsc) rfl)
      conv => whnf
      exact ⟨rfl, rfl, rfl, rfl, rfl, rfl, rfl, rfl⟩
    · intro k _ hk
      obtain ⟨x, hx⟩ : ∃ x, (edges n)[k]? = some x := ⟨_, List.getElem?_eq_getElem (by omega)⟩
      obtain ⟨q1, _, q3, q4, _⟩ := edge_of hn hx
      have hL : x.1 < w.length := by omega
      have hR : x.2.2.1 < w.length := by omega
      (conv => whnf); repeat ((first | refine SlI.at (h2.app _) (i := k) hk rfl ?_ | refine ⟨_, _, edge_ok (hN.more _) k x hx, ?_⟩ | refine br_yes (blt_w0 hL) ?_ | refine br_yes (blt_w1 hL) ?_ | refine br_yes (blt_w2 hL) ?_ | refine br_yes (blt_w0 hR) ?_ | refine br_yes (blt_w1 hR) ?_ | refine br_yes (blt_w2 hR) ?_ | refine ⟨_, wminus_at (z := w.getD x.1 0 + dl n (fL f) k x.1) (get_w0 hL) (get_w1 hL) (h2.wf k hk) _, ?_⟩ | refine setB_as0 (c' := ⟨true, .ints .u64 (tab (w.length * 2) (wF (fdn (fun c => w.getD c 0 + dl n (fL f) k c) x.1 (fL f k))))⟩) (u64_blk (set_w _ _ hL)) ?_ | refine ⟨_, wplus_at (z := fdn (fun c => w.getD c 0 + dl n (fL f) k c) x.1 (fL f k) x.2.2.1) (get_w0 hR) (get_w1 hR) (h2.wf k hk) _, ?_⟩ | refine setB_as0 (u64_blk ((set_w _ _ hR).trans (step2 hx (by omega)))) ?_ | refine br_d (by omega) ?_ | refine setB_app ?_ | rw [getB_app] | rw [getB_app0] | refine addB_f1 ?_); conv => whnf)
      refine Fg.of [⟨true, .cells [I x.1, I x.2.1, I x.2.2.1, I x.2.2.2]⟩] ?_ (by rw [List.append_assoc]; rfl) (by simp) (by (simp [scL, V.sc]) <;> omega) (scM_app (scM_mono (by simp) _ hsc) rfl)
      conv => whnf
      exact ⟨rfl, rfl, rfl, rfl, rfl, rfl, wrapKL (by omega), rfl⟩
    · (conv => whnf); repeat ((first | refine br_d ⟨by omega, by omega, by omega, (by show (8 : Int) * _ ≤ 2 ^ 48; omega)⟩ ?_ | refine br_nd (by omega) ?_ | refine Or.inl ?_ | refine addB_f1 ?_); conv => whnf)
      refine loop_to (fun k => [.ptr (b + 1) 0, .any, .any, .any, .any, .any, .any, .any, .sl M.length 0 w.length, .any, .any, .any, .any, .any, .any, .sl (M.length + 1) 0 w.length, .any, .any, .any, .any, .any, .any, .any, .any, .any, .any, .any, .any, .any, .any, .any, .any, .any, .any, .any, .any, .any, .any, .any, .any, .any, .any, .any, .any, .any, .any, .any, .any, .any, .any, .any, .any, .any, .any, .any, .any, .any, .any, .any, .any, .any, .any, .any, .any, .any, .any, .any, .any, .any, .any, .any, .any, .any, .any, .any, .any, .any, .any, .any, .any, .any, .any, .any, .any, .any, .any, .any, .any, .any, .any, .any, .any, .any, .sl M.length 0 w.length, I w.length, I k, .any, .any, .any, .any, .any, .any, .any, .any, .any, .any, .any, .any, .any, .any, .any, .any, .any, .any, .any, .any, .any]) (fun k => M ++ [⟨true, .ints .u64 (tab (w.length * 2) (wF (tot n w f)))⟩, ⟨true, .ints .i64 (tab w.length (movF k (tot n w f)))⟩]) 0 w.length (Nat.zero_le _) ?_ ?_ ?_
      · refine Fg.of [] ?_ (by rw [List.append_nil]; exact congrArg (fun L => M ++ [⟨true, .ints .u64 (tab (w.length * 2) (wF (tot n w f)))⟩, ⟨true, .ints .i64 L⟩]) (zero_t w.length)) (by simp) (by (simp [scL, V.sc]) <;> omega) (scM_app (scM_mono (by simp) _ hsc) rfl)
        conv => whnf
        exact ⟨rfl, rfl, rfl, rfl, rfl, rfl, rfl⟩
      · intro k _ hk
        have hgk := hg k hk
        have hin : in64 (tot n w f k) := ⟨by omega, by omega⟩
        (conv => whnf); repeat ((first | refine br_yes (blt_w0 hk) ?_ | refine br_yes (blt_w1 hk) ?_ | refine ⟨_, _, wnarrow_yes (z := tot n w f k) (get_w0 hk) (get_w1 hk) hin _, ?_⟩ | refine br_yes (blt_t hk) ?_ | refine setB_as (i64_blk (step3 (tot n w f))) ?_ | refine br_d (by omega) ?_ | refine br_nd (by omega) ?_ | refine setB_app ?_ | rw [getB_app] | rw [getB_app0] | refine addB_f2 ?_); conv => whnf)
        refine Fg.of [_] ?_ (by rw [List.append_assoc]; rfl) (by simp) (by (simp [scL, V.sc]) <;> omega) (scM_app (scM_mono (by simp) _ hsc) rfl)
        conv => whnf
        exact ⟨rfl, rfl, rfl, rfl, rfl, wrapKL (by omega), rfl⟩
      · (conv => whnf); repeat (refine br_nd (by omega) ?_; conv => whnf)
        refine ⟨rfl, [], ?_⟩
        rw [List.append_nil]
        exact congrArg (fun L => M ++ [⟨true, .ints .u64 (tab (w.length * 2) (wF (tot n w f)))⟩, ⟨true, .ints .i64 L⟩]) (end3 (tot n w f))

set_option maxHeartbeats 0 in
theorem move_not {c0 : Nat} (hc0 : c0 < w.length) (hg : ∀ c, c < c0 → 0 ≤ tot n w f c ∧ tot n w f c < 9223372036854775808) (hbad : ¬ (0 ≤ tot n w f c0 ∧ tot n w f c0 < 9223372036854775808)) :
    COk Tryz.prog 3 36 [.ptr (b + 1) 0, .sl j1 o1 w.length, .sl j2 o2 f.length] M (.tup [nilS', I 20]) M := by
  have _hng := hng
  have hj1 := h1.lt
  have hj2 := h2.lt
  have hb := hN.lt
  have hnn : 1 ≤ n * n ∧ n * n ≤ 1024 := ⟨Nat.mul_pos hn hn, Nat.mul_le_mul hn' hn'⟩
  have hel := edges_len hn
  refine COk_of_ev Tryz.f36 Tryz.func36 (by kernel_rfl) (Nat.le_refl _) rfl (.inl rfl) ?_
  (conv => whnf); repeat ((first | refine ⟨_, _, gcells_ok hN, ?_⟩ | refine ⟨_, _, gedges_ok hN, ?_⟩ | refine br_d ⟨by omega, by omega, by omega, (by show (16 : Int) * _ ≤ 2 ^ 48; omega)⟩ ?_ | refine br_no (bo_eqn (by omega)) ?_ | refine Or.inl ?_ | refine addB_f0 ?_); conv => whnf)
  refine loop_to (fun k => [.ptr (b + 1) 0, .sl j1 o1 w.length, .sl j2 o2 f.length, .any, .any, .any, .any, .any, .sl M.length 0 w.length, .any, .any, .any, .any, .any, .any, .any, .any, .any, .any, .any, .any, .any, .any, .any, .any, .any, .any, .any, .any, .any, .any, .any, .any, .any, .any, .any, .any, .sl j1 o1 w.length, I w.length, I k, .any, .any, .any, .any, .any, .any, .any, .any, .any, .any, .any, .any, .any, .any, .any, .any, .any, .any, .any, .any, .any, .any, .any, .any, .any, .any, .any, .any, .any, .any, .any, .any, .any, .any, .any, .any, .any, .any, .any, .any, .any, .any, .any, .any, .any, .any, .any, .any, .any, .any, .any, .any, .any, .any, .any, .any, .any, .any, .any, .any, .any, .any, .any, .any, .any, .any, .any, .any, .any, .any, .any, .any, .any, .any, .any, .any, .any]) (fun k => M ++ [⟨true, .ints .u64 (tab (w.length * 2) (wF (movF k (fL w))))⟩]) 0 w.length (Nat.zero_le _) ?_ ?_ ?_
  · refine Fg.of [] ?_ (by rw [List.append_nil]; exact congrArg (fun L => M ++ [⟨true, .ints .u64 L⟩]) (zero_w w.length)) (by simp) (by (simp [scL, V.sc]) <;> omega) (scM_app (scM_mono (by simp) _ hsc) rfl)
    conv => whnf
    exact ⟨rfl, rfl, rfl, rfl, rfl, rfl, rfl, rfl⟩
  · intro k _ hk
    (conv => whnf); repeat ((first | refine SlI.at (h1.app _) (i := k) hk rfl ?_ | refine br_yes (blt_w0 hk) ?_ | refine br_yes (blt_w1 hk) ?_ | refine br_yes (blt_w2 hk) ?_ | refine ⟨_, _, wplus_at (z := movF k (fL w) k) (get_w0 hk) (get_w1 hk) (h1.wf k hk) _, ?_⟩ | refine setB_as0 (u64_blk (step1 (fL w) hk)) ?_ | refine br_d (by omega) ?_ | rw [getB_app0]); conv => whnf)
    refine Fg.of [] ?_ (by rw [List.append_nil]; rfl) (by simp) (by (simp [scL, V.sc]) <;> omega) (scM_app (scM_mono (by simp) _ hsc) rfl)
    conv => whnf
    exact ⟨rfl, rfl, rfl, rfl, rfl, rfl, wrapKL (by omega), rfl⟩
  · (conv => whnf); repeat (refine br_nd (by omega) ?_; conv => whnf)
    refine loop_to (fun k => [.ptr (b + 1) 0, .sl j1 o1 w.length, .sl j2 o2 f.length, .any, .any, .any, .any, .any, .sl M.length 0 w.length, .any, .any, .any, .any, .any, .any, .any, .any, .any, .any, .any, .any, .any, .any, .any, .any, .any, .any, .any, .any, .any, .any, .any, .any, .any, .any, .any, .any, .any, .any, .any, .any, .any, .any, .any, .any, .any, .any, .any, .any, .any, .any, .any, .any, .any, .sl j2 o2 f.length, I f.length, I k, .any, .any, .any, .any, .any, .any, .any, .any, .any, .any, .any, .any, .any, .any, .any, .any, .any, .any, .any, .any, .any, .any, .any, .any, .any, .any, .any, .any, .any, .any, .any, .any, .any, .any, .any, .any, .any, .any, .any, .any, .any, .any, .any, .any, .any, .any, .any, .any, .any, .any, .any, .any, .any, .any, .any, .any, .any, .any, .any, .any]) (fun k => M ++ [⟨true, .ints .u64 (tab (w.length * 2) (wF fun c => w.getD c 0 + dl n (fL f) k c))⟩]) 0 f.length (Nat.zero_le _) ?_ ?_ ?_
    · refine Fg.of [] ?_ (by rw [List.append_nil]; exact congrArg (fun L => M ++ [⟨true, .ints .u64 L⟩]) (start2 n (fL f) w)) (by simp) (by (simp [scL, V.sc]) <;> omega) (scM_app (scM_mono (by simp) _ hsc) rfl)
      conv => whnf
      exact ⟨rfl, rfl, rfl, rfl, rfl, rfl, rfl, rfl⟩
    · intro k _ hk
      obtain ⟨x, hx⟩ : ∃ x, (edges n)[k]? = some x := ⟨_, List.getElem?_eq_getElem (by omega)⟩
      obtain ⟨q1, _, q3, q4, _⟩ := edge_of hn hx
      have hL : x.1 < w.length := by omega
      have hR : x.2.2.1 < w.length := by omega
      (conv => whnf); repeat ((first | refine SlI.at (h2.app _) (i := k) hk rfl ?_ | refine ⟨_, _, edge_ok (hN.more _) k x hx, ?_⟩ | refine br_yes (blt_w0 hL) ?_ | refine br_yes (blt_w1 hL) ?_ | refine br_yes (blt_w2 hL) ?_ | refine br_yes (blt_w0 hR) ?_ | refine br_yes (blt_w1 hR) ?_ | refine br_yes (blt_w2 hR) ?_ | refine ⟨_, wminus_at (z := w.getD x.1 0 + dl n (fL f) k x.1) (get_w0 hL) (get_w1 hL) (h2.wf k hk) _, ?_⟩ | refine setB_as0 (c' := ⟨true, .ints .u64 (tab (w.length * 2) (wF (fdn (fun c => w.getD c 0 + dl n (fL f) k c) x.1 (fL f k))))⟩) (u64_blk (set_w _ _ hL)) ?_ | refine ⟨_, wplus_at (z := fdn (fun c => w.getD c 0 + dl n (fL f) k c) x.1 (fL f k) x.2.2.1) (get_w0 hR) (get_w1 hR) (h2.wf k hk) _, ?_⟩ | refine setB_as0 (u64_blk ((set_w _ _ hR).trans (step2 hx (by omega)))) ?_ | refine br_d (by omega) ?_ | refine setB_app ?_ | rw [getB_app] | rw [getB_app0] | refine addB_f1 ?_); conv => whnf)
      refine Fg.of [⟨true, .cells [I x.1, I x.2.1, I x.2.2.1, I x.2.2.2]⟩] ?_ (by rw [List.append_assoc]; rfl) (by simp) (by (simp [scL, V.sc]) <;> omega) (scM_app (scM_mono (by simp) _ hsc) rfl)
      conv => whnf
      exact ⟨rfl, rfl, rfl, rfl, rfl, rfl, wrapKL (by omega), rfl⟩
    · (conv => whnf); repeat ((first | refine br_d ⟨by omega, by omega, by omega, (by show (8 : Int) * _ ≤ 2 ^ 48; omega)⟩ ?_ | refine br_nd (by omega) ?_ | refine Or.inl ?_ | refine addB_f1 ?_); conv => whnf)
      refine loop_to (fun k => [.ptr (b + 1) 0, .any, .any, .any, .any, .any, .any, .any, .sl M.length 0 w.length, .any, .any, .any, .any, .any, .any, .sl (M.length + 1) 0 w.length, .any, .any, .any, .any, .any, .any, .any, .any, .any, .any, .any, .any, .any, .any, .any, .any, .any, .any, .any, .any, .any, .any, .any, .any, .any, .any, .any, .any, .any, .any, .any, .any, .any, .any, .any, .any, .any, .any, .any, .any, .any, .any, .any, .any, .any, .any, .any, .any, .any, .any, .any, .any, .any, .any, .any, .any, .any, .any, .any, .any, .any, .any, .any, .any, .any, .any, .any, .any, .any, .any, .any, .any, .any, .any, .any, .any, .any, .sl M.length 0 w.length, I w.length, I k, .any, .any, .any, .any, .any, .any, .any, .any, .any, .any, .any, .any, .any, .any, .any, .any, .any, .any, .any, .any, .any]) (fun k => M ++ [⟨true, .ints .u64 (tab (w.length * 2) (wF (tot n w f)))⟩, ⟨true, .ints .i64 (tab w.length (movF k (tot n w f)))⟩]) 0 c0 (Nat.zero_le _) ?_ ?_ ?_
      · refine Fg.of [] ?_ (by rw [List.append_nil]; exact congrArg (fun L => M ++ [⟨true, .ints .u64 (tab (w.length * 2) (wF (tot n w f)))⟩, ⟨true, .ints .i64 L⟩]) (zero_t w.length)) (by simp) (by (simp [scL, V.sc]) <;> omega) (scM_app (scM_mono (by simp) _ hsc) rfl)
        conv => whnf
        exact ⟨rfl, rfl, rfl, rfl, rfl, rfl, rfl⟩
      · intro k _ hk
        have hgk := hg k hk
        have hin : in64 (tot n w f k) := ⟨by omega, by omega⟩
        have hk : k < w.length := by omega
        (conv => whnf); repeat ((first | refine br_yes (blt_w0 hk) ?_ | refine br_yes (blt_w1 hk) ?_ | refine ⟨_, _, wnarrow_yes (z := tot n w f k) (get_w0 hk) (get_w1 hk) hin _, ?_⟩ | refine br_yes (blt_t hk) ?_ | refine setB_as (i64_blk (step3 (tot n w f))) ?_ | refine br_d (by omega) ?_ | refine br_nd (by omega) ?_ | refine setB_app ?_ | rw [getB_app] | rw [getB_app0] | refine addB_f2 ?_); conv => whnf)
        refine Fg.of [_] ?_ (by rw [List.append_assoc]; rfl) (by simp) (by (simp [scL, V.sc]) <;> omega) (scM_app (scM_mono (by simp) _ hsc) rfl)
        conv => whnf
        exact ⟨rfl, rfl, rfl, rfl, rfl, wrapKL (by omega), rfl⟩
      · have hd := dl_bd (n := n) (f := fL f) (K := f.length) (fun i hi => h2.wf i hi) c0 f.length (Nat.le_refl _)
        have hwc := h1.wf c0 hc0
        have hz : -170141183460469231731687303715884105728 ≤ tot n w f c0 ∧ tot n w f c0 < 170141183460469231731687303715884105728 := by
          unfold tot; omega
        by_cases hin : in64 (tot n w f c0)
        · (conv => whnf); repeat ((first | refine br_yes (blt_w0 hc0) ?_ | refine br_yes (blt_w1 hc0) ?_ | refine ⟨_, _, wnarrow_yes (z := tot n w f c0) (get_w0 hc0) (get_w1 hc0) hin _, ?_⟩ | refine br_d (by omega) ?_ | refine setB_app ?_ | rw [getB_app] | rw [getB_app0] | refine addB_f2 ?_); conv => whnf)
          exact ⟨rfl, _, rfl⟩
        · (conv => whnf); repeat ((first | refine br_yes (blt_w0 hc0) ?_ | refine br_yes (blt_w1 hc0) ?_ | refine ⟨_, _, wnarrow_not (z := tot n w f c0) (get_w0 hc0) (get_w1 hc0) hin hz _, ?_⟩ | refine br_d (by omega) ?_ | refine setB_app ?_ | rw [getB_app] | rw [getB_app0] | refine addB_f2 ?_); conv => whnf)
          exact ⟨rfl, _, rfl⟩
end
theorem move_arg {M : List Blk} {b n : Nat} (hN : Net M b n) {v1 v2 : V} {w f : List Int} (h1 : Sli M v1 w) (h2 : Sli M v2 f) (h : w.length ≠ 6 * (n * n) ∨ f.length ≠ (edges n).length) :
    COk Tryz.prog 3 36 [.ptr (b + 1) 0, v1, v2] M (.tup [nilS', I 1]) M := by
  have hw0 : ∀ l : List Int, l = [] → l.length = 0 := fun l h => by rw [h]; rfl
  by_cases hw : w.length = 6 * (n * n)
  · have hf : f.length ≠ (edges n).length := h.resolve_left (fun h => h hw)
    rcases h1 with ⟨rfl, rfl⟩ | ⟨j1, o1, rfl, h1⟩ <;> rcases h2 with ⟨rfl, rfl⟩ | ⟨j2, o2, rfl, h2⟩
    all_goals
      (try rw [List.length_nil] at hw)
      (try rw [List.length_nil] at hf)
      refine COk_quiet Tryz.f36 Tryz.func36 (by kernel_rfl) rfl ?_
      (conv => whnf); repeat ((first | refine ⟨_, _, gcells_ok hN, ?_⟩ | refine ⟨_, _, gedges_ok hN, ?_⟩ | refine br_ne (by omega) ?_ | refine br_no (bo_eqn (by omega)) ?_); conv => whnf)
      exact ⟨rfl, [], by simp⟩
  · rcases h1 with ⟨rfl, rfl⟩ | ⟨j1, o1, rfl, h1⟩ <;> rcases h2 with ⟨rfl, rfl⟩ | ⟨j2, o2, rfl, h2⟩
    all_goals
      (try rw [List.length_nil] at hw)
      refine COk_quiet Tryz.f36 Tryz.func36 (by kernel_rfl) rfl ?_
      (conv => whnf); repeat ((first | refine ⟨_, _, gcells_ok hN, ?_⟩ | refine br_ne (by omega) ?_); conv => whnf)
      exact ⟨rfl, [], by simp⟩

theorem move_up {M : List Blk} {b n j1 o1 j2 o2 : Nat} {w f : List Int} (hng : 3 ≤ M.length) (hsc : scM M.length M = true) (hN : Net M b n) (hn : 1 ≤ n) (hn' : n ≤ 32) (h1 : SlI M j1 o1 w) (h2 : SlI M j2 o2 f) (hw : w.length = 6 * (n * n)) (hf : f.length = (edges n).length)
    (hg : ∀ c, c < w.length → 0 ≤ tot n w f c ∧ tot n w f c < 9223372036854775808) :
    ∃ M', COk Tryz.prog 3 36 [.ptr (b + 1) 0, .sl j1 o1 w.length, .sl j2 o2 f.length] M (.tup [.sl (M.length + 1) 0 w.length, I 0]) M' ∧ Up M M' ∧ SlI M' (M.length + 1) 0 (tab w.length (tot n w f)) := by
  refine ⟨_, move_ok hng hsc hN hn hn' h1 h2 hw hf hg, Up.of hsc rfl, SlI.tab (getB_app 1) (fun i hi => ?_) h1.short⟩
  have := hg i hi
  exact ⟨by omega, this.2⟩
/-- Same lists. -/
theorem same15_ok {M : List Blk} (hng : 3 ≤ M.length) (hsc : scM M.length M = true) {va vb : V} {a b : List Int} (ha : Sli M va a) (hb : Sli M vb b) : COk Tryz.prog 3 38 [va, vb] M (Bo (decide (a = b))) M := by
  have wa := ha.wf
  have wb := hb.wf
  by_cases hl : a.length = b.length
  · by_cases he : a = b
    · rw [decide_eq_true he]
      rcases ha with ⟨rfl, rfl⟩ | ⟨j1, o1, rfl, ha⟩
      · subst he
        rcases hb with ⟨rfl, _⟩ | ⟨j2, o2, rfl, hb⟩
        all_goals
          refine COk_quiet Tryz.f38 Tryz.func38 (by kernel_rfl) rfl ?_
          (conv => whnf); repeat (refine lr ?_; conv => whnf)
          exact ⟨rfl, [], by simp⟩
      · subst he
        rcases hb with ⟨rfl, rfl⟩ | ⟨j2, o2, rfl, hb⟩
        · refine COk_quiet Tryz.f38 Tryz.func38 (by kernel_rfl) rfl ?_
          (conv => whnf); repeat (refine lr ?_; conv => whnf)
          exact ⟨rfl, [], by simp⟩
        · have hj1 := ha.lt
          have hj2 := hb.lt
          refine COk_quiet Tryz.f38 Tryz.func38 (by kernel_rfl) rfl ?_
          (conv => whnf); repeat (refine br_no (bo_eqn (by omega)) ?_; conv => whnf)
          refine loop_to (fun k => [.sl j1 o1 a.length, .sl j2 o2 a.length, .any, .any, .any, I k, .any, .any, .any, .any, .any, .any, .any, .any, .any, .any, .any, .any, .any, .any, .any, .any, .any, .any, .any, .any]) (fun _ => M) 0 a.length (Nat.zero_le _) ?_ ?_ ?_
          · refine Fg.of [] ?_ (by rw [List.append_nil]) (by simp) (by (simp [scL, V.sc]) <;> omega) hsc
            conv => whnf
            exact ⟨rfl, rfl, rfl, rfl⟩
          · intro k _ hk
            (conv => whnf); repeat ((first | refine SlI.at ha (i := k) hk rfl ?_ | refine SlI.at hb (i := k) hk rfl ?_ | refine br_no (bo_eqn rfl) ?_ | refine br_d (by omega) ?_); conv => whnf)
            refine Fg.of [] ?_ (by rw [List.append_nil]) (by simp) (by (simp [scL, V.sc]) <;> omega) hsc
            conv => whnf
            exact ⟨rfl, rfl, wrapKL (by omega), rfl⟩
          · (conv => whnf); repeat (refine br_nd (by omega) ?_; conv => whnf)
            exact ⟨rfl, [], by simp⟩
    · rw [decide_eq_false he]
      obtain ⟨k0, hk0, hlo, hne⟩ := list_ne hl he
      rcases ha with ⟨rfl, rfl⟩ | ⟨j1, o1, rfl, ha⟩
      · exact absurd hk0 (Nat.not_lt_zero _)
      rcases hb with ⟨rfl, rfl⟩ | ⟨j2, o2, rfl, hb⟩
      · rw [hl] at hk0; exact absurd hk0 (Nat.not_lt_zero _)
      have hj1 := ha.lt
      have hj2 := hb.lt
      refine COk_quiet Tryz.f38 Tryz.func38 (by kernel_rfl) rfl ?_
      (conv => whnf); repeat (refine br_no (bo_eqn (by omega)) ?_; conv => whnf)
      refine loop_to (fun k => [.sl j1 o1 a.length, .sl j2 o2 b.length, .any, .any, .any, I k, .any, .any, .any, .any, .any, .any, .any, .any, .any, .any, .any, .any, .any, .any, .any, .any, .any, .any, .any, .any]) (fun _ => M) 0 k0 (Nat.zero_le _) ?_ ?_ ?_
      · refine Fg.of [] ?_ (by rw [List.append_nil]) (by simp) (by (simp [scL, V.sc]) <;> omega) hsc
        conv => whnf
        exact ⟨rfl, rfl, rfl, rfl⟩
      · intro k _ hk
        have e := hlo k hk
        (conv => whnf); repeat ((first | refine SlI.at ha (i := k) (by omega) rfl ?_ | refine SlI.at hb (i := k) (by omega) rfl ?_ | refine br_no (bo_eqn e) ?_ | refine br_d (by omega) ?_); conv => whnf)
        refine Fg.of [] ?_ (by rw [List.append_nil]) (by simp) (by (simp [scL, V.sc]) <;> omega) hsc
        conv => whnf
        exact ⟨rfl, rfl, wrapKL (by omega), rfl⟩
      · (conv => whnf); repeat ((first | refine SlI.at ha (i := k0) (by omega) rfl ?_ | refine SlI.at hb (i := k0) (by omega) rfl ?_ | refine br_ne hne ?_ | refine br_d (by omega) ?_); conv => whnf)
        exact ⟨rfl, [], by simp⟩
  · rw [decide_eq_false (fun e => hl (by rw [e]))]
    rcases ha with ⟨rfl, rfl⟩ | ⟨j1, o1, rfl, ha⟩ <;> rcases hb with ⟨rfl, rfl⟩ | ⟨j2, o2, rfl, hb⟩
    · exact absurd rfl hl
    all_goals
      (try rw [List.length_nil] at hl)
      refine COk_quiet Tryz.f38 Tryz.func38 (by kernel_rfl) rfl ?_
      (conv => whnf); repeat (refine br_ne (by omega) ?_; conv => whnf)
      exact ⟨rfl, [], by simp⟩
/-- A flow over one edge. -/
def oneF (e : Nat) (x : Int) (i : Nat) : Int := if i = e then x else 0
theorem one15_ok {M : List Blk} (hsc : scM M.length M = true) (K e : Nat) (x : Int) (he : e < K) (hK : K ≤ 30000) (hx : in64 x) : ∃ M', COk Tryz.prog 3 100 [I K, I e, .int .i64 x] M (.sl M.length 0 K) M' ∧ Up M M' ∧ SlI M' M.length 0 (tab K (oneF e x)) := by
  refine ⟨M ++ [⟨true, .ints .i64 (tab K (oneF e x))⟩], ?_, Up.of hsc rfl, SlI.tab getB_app0 (fun i hi => by unfold oneF; split <;> omega) (by omega)⟩
  refine COk_of_ev Tryz.f100 Tryz.func100 (by kernel_rfl) (by simp) (by simp [V.sc]) (.inr (scM_app (scM_mono (by simp) _ hsc) rfl)) ?_
  have hb : Nat.blt (0 + e * 1) (List.replicate (K * 1) (0 : Int)).length = true := by simp; omega
  have hs : (List.replicate (K * 1) (0 : Int)).set (0 + e * 1) x = tab K (oneF e x) := by
    rw [zero_t, tab_set]
    exact tab_congr fun i _ => by unfold oneF; simp
  (conv => whnf); repeat ((first | refine br_d ⟨by omega, by omega, by omega, (by show (8 : Int) * _ ≤ 2 ^ 48; omega)⟩ ?_ | refine br_yes hb ?_ | refine setB_as0 (i64_blk hs) ?_ | refine br_d (by omega) ?_ | refine Or.inl ?_ | rw [getB_app0] | refine addB_f0 ?_); conv => whnf)
  exact ⟨rfl, [], by rw [List.append_nil]; rfl⟩
theorem tot1a : ∀ c, c < 6 → tot 1 [5, 0, 0, 0, 0, 0] (tab 12 (oneF 0 3)) c = ([2, 3, 0, 0, 0, 0] : List Int).getD c 0 := by decide +kernel
theorem tot1b : tot 1 [5, 0, 0, 0, 0, 0] (tab 12 (oneF 0 6)) 0 = -1 := by decide +kernel
set_option maxHeartbeats 0 in
theorem awake15_ok {M : List Blk} (hm : Top M) (hsc : scM M.length M = true) : COk Tryz.prog 3 35 [] M (Bo true) M := by
  obtain ⟨b, M1, hnew, hN, u1⟩ := new_up hm hsc 1 (by omega) (by omega)
  have hed := gedges_ok hN
  rw [len1] at hed
  have hng := (hm.up u1).ng
  -- the first move
  have ua : Up M1 (M1 ++ [⟨true, .cells (rowI [5, 0, 0, 0, 0, 0])⟩]) := Up.of u1.sc rfl
  obtain ⟨M2, hone, u2, s2⟩ := one15_ok ua.sc 12 0 3 (by decide) (by decide) (by decide)
  have sa : SlI M2 M1.length 0 [5, 0, 0, 0, 0, 0] := (SlI.lit getB_app0 (by decide) (by decide)).up u2
  have hla := tot1a
  obtain ⟨M3, hmove, u3, s3⟩ := move_up (by have := u2.len; have := ua.len; omega) u2.sc (hN.up (ua.trans u2)) (by omega) (by omega) sa s2 rfl rfl (fun c hc => by
    rw [hla c hc]
    have hc : c < 6 := hc
    obtain rfl | rfl | rfl | rfl | rfl | rfl : c = 0 ∨ c = 1 ∨ c = 2 ∨ c = 3 ∨ c = 4 ∨ c = 5 := by omega
    all_goals decide)
  -- the second move
  have ub : Up M3 (M3 ++ [⟨true, .cells (rowI [5, 0, 0, 0, 0, 0])⟩]) := Up.of u3.sc rfl
  obtain ⟨M4, hone2, u4, s4⟩ := one15_ok ub.sc 12 0 6 (by decide) (by decide) (by decide)
  have sb : SlI M4 M3.length 0 [5, 0, 0, 0, 0, 0] := (SlI.lit getB_app0 (by decide) (by decide)).up u4
  have uall := ((((ua.trans u2).trans u3).trans ub).trans u4)
  have hng4 : 3 ≤ M4.length := by have := uall.len; omega
  have hmove2 := move_not (c0 := 0) hng4 u4.sc (hN.up uall) (by omega) (by omega) sb s4 rfl rfl (by decide) (fun c hc => absurd hc (Nat.not_lt_zero c)) (by rw [tot1b]; decide)
  -- the totals
  have ta : ∀ x, Sli (M4 ++ ⟨true, .cells (rowI [9223372036854775807, 1])⟩ :: x) (.sl M4.length 0 2) [9223372036854775807, 1] := fun x => Sli.of (l := [9223372036854775807, 1]) (SlI.lit getB_app0 (by decide) (by decide))
  have tb : Sli (M4 ++ [⟨true, .cells (rowI [9223372036854775807, 1])⟩, ⟨true, .cells (rowI [-1])⟩]) (.sl (M4.length + 1) 0 1) [-1] := Sli.of (l := [-1]) (SlI.lit (getB_app 1) (by decide) (by decide))
  have tc : Sli (M4 ++ [⟨true, .cells (rowI [9223372036854775807, 1])⟩, ⟨true, .cells (rowI [-1])⟩, ⟨true, .cells (rowI [9223372036854775807, 1])⟩]) (.sl (M4.length + 2) 0 2) [9223372036854775807, 1] := Sli.of (l := [9223372036854775807, 1]) (SlI.lit (getB_app 2) (by decide) (by decide))
  have h1 := total_ok (by (simp) <;> omega) (Up.of u4.sc rfl).sc (ta _) tb
  have h2 := total_ok (by (simp) <;> omega) (Up.of u4.sc rfl).sc tc (Sli.none _)
  have e1 : totalV (ps [9223372036854775807, 1] ([9223372036854775807, 1] : List Int).length + ps [-1] ([-1] : List Int).length) = .tup [.int .i64 9223372036854775807, I 0] := (if_pos (by decide)).trans (by rfl)
  have e2 : totalV (ps [9223372036854775807, 1] ([9223372036854775807, 1] : List Int).length + ps [] ([] : List Int).length) = .tup [.int .i64 0, I 20] := if_neg (by decide)
  rw [e1] at h1
  rw [e2] at h2
  have h3 := same15_ok (by (simp) <;> omega) (Up.of (x := [⟨true, .cells (rowI [9223372036854775807, 1])⟩, ⟨true, .cells (rowI [-1])⟩, ⟨true, .cells (rowI [9223372036854775807, 1])⟩, ⟨true, .cells (rowI [2, 3, 0, 0, 0, 0])⟩]) u4.sc rfl).sc
    ((Sli.of (s3.up (ub.trans u4))).app _) (Sli.of (SlI.lit (l := [2, 3, 0, 0, 0, 0]) (getB_app 3) (by decide) (by decide)))
  rw [decide_eq_true (by rw [tab_list [2, 3, 0, 0, 0, 0] 0]; exact tab_congr hla)] at h3
  refine COk_quiet Tryz.f35 Tryz.func35 (by kernel_rfl) rfl ?_
  (conv => whnf); repeat ((first | refine ⟨_, _, hnew, ?_⟩ | refine ⟨_, _, hed, ?_⟩ | refine ⟨_, _, hone, ?_⟩ | refine ⟨_, _, hmove, ?_⟩ | refine ⟨_, _, hone2, ?_⟩ | refine ⟨_, _, hmove2, ?_⟩ | refine ⟨_, _, h1, ?_⟩ | refine ⟨_, _, h2, ?_⟩ | refine ⟨_, _, h3, ?_⟩ | refine addB_f3 ?_ | refine addB_f2 ?_ | refine addB_f1 ?_ | refine addB_f0 ?_); conv => whnf)
  exact ⟨rfl, (u1.trans uall).app _⟩
theorem first_bad {P : Nat → Prop} {N : Nat} (h : ¬ ∀ i, i < N → P i) : ∃ k, k < N ∧ (∀ i, i < k → P i) ∧ ¬ P k := by
  induction N with
  | zero => exact absurd (fun i hi => absurd hi (Nat.not_lt_zero i)) h
  | succ N ih =>
    by_cases h' : ∀ i, i < N → P i
    · refine ⟨N, Nat.lt_succ_self N, h', fun hp => h fun i hi => ?_⟩
      rcases Nat.lt_or_ge i N with h1 | h1
      · exact h' i h1
      · obtain rfl : i = N := by omega
        exact hp
    · obtain ⟨k, h1, h2, h3⟩ := ih h'
      exact ⟨k, by omega, h2, h3⟩
end Go.Proofs.YthoofdnnfahhaaaGreatDoor
