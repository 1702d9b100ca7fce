import Derived.Test.YtgoljofmbidkfaaGreatDoorLa
import Derived.Test.YtgoljofmbidkfaaGreatDoorPf
import Derived.Test.YtgoljofmbidkfaaGreatDoorRq
import Derived.Test.YtgoljofmbidkfaaGreatDoorRf
import Derived.Test.YtgoljofmbidkfaaGreatDoorR5
import Derived.Test.YtgoljofmbidkfaaGreatDoorLv
import Derived.Test.YtgoljofmbidkfaaGreatDoorSu
/- Lakes that can't be, and the reference's lakes. No condition. -/
namespace Go.Proofs.YtgoljofmbidkfaaGreatDoor
open Go Go.Eng Ieee
set_option maxRecDepth 100000
set_option linter.unusedSimpArgs false
set_option linter.unusedVariables false

theorem rfill_ok (b : Nat) (a : Int) (h : Nat) (ha : in64 a) (m : List Blk) : COk Tryz.prog 3 103 [F b, .int .i64 a, F h] m (.int .i64 (fillF b a h)) m := by
  unfold fillF
  cases hg : fgt (some h) (some b) with
  | false =>
    rw [if_neg (fun k => by cases k.1)]
    refine COk_quiet Tryz.f103 Tryz.func103 (by kernel_rfl) rfl ?_
    (conv => whnf); repeat (refine br_yes (congrArg not hg) ?_; conv => whnf)
    exact ⟨rfl, [], by simp⟩
  | true =>
    by_cases h1 : 1 ≤ a
    · rw [if_pos ⟨rfl, h1⟩]
      have hc := fun m => refclampO_ok (fmul (fsub (some h) (some b)) (some (nI a))) (fun b hb => fmul_lt hb) m
      have hi := rfromint_ok a ha
      refine COk_quiet Tryz.f103 Tryz.func103 (by kernel_rfl) rfl ?_
      (conv => whnf); repeat ((first | refine br_no (congrArg not hg) ?_ | refine ⟨_, _, hi _, ?_⟩ | refine ⟨_, _, hc _, ?_⟩ | refine br_nd (by omega) ?_); conv => whnf)
      exact ⟨rfl, [], by simp⟩
    · rw [if_neg (fun k => h1 k.2)]
      refine COk_quiet Tryz.f103 Tryz.func103 (by kernel_rfl) rfl ?_
      (conv => whnf); repeat ((first | refine br_no (congrArg not hg) ?_ | refine br_d (by omega) ?_); conv => whnf)
      exact ⟨rfl, [], by simp⟩
theorem Lake_side {M : List Blk} {j : Nat} {Be : List Nat} {x : Int} (hx : ¬ (1 ≤ x ∧ x ≤ 32)) (h : Nat) : COk Tryz.prog 3 40 [I x, .sl j 0 Be.length, F h] M (.tup [seaN, I 10]) M := by
  have hno := fun m => new_no x hx m
  refine COk_quiet Tryz.f40 Tryz.func40 (by kernel_rfl) rfl ?_
  (conv => whnf); repeat ((first | refine ⟨_, _, hno _, ?_⟩ | refine setB_app0 ?_ | rw [getB_app0] | refine addB_f0 ?_); conv => whnf)
  exact ⟨rfl, _, rfl⟩
theorem rLake_side {M : List Blk} {j : Nat} {Be : List Nat} {x : Int} (hx : ¬ (1 ≤ x ∧ x ≤ 32)) (h : Nat) : COk Tryz.prog 3 41 [I x, .sl j 0 Be.length, F h] M (.tup [seaN, I 10]) M := by
  rcases (show x < 1 ∨ x > 32 by omega) with hx | hx
  all_goals
    refine COk_quiet Tryz.f41 Tryz.func41 (by kernel_rfl) rfl ?_
    (conv => whnf); repeat ((first | refine br_d (by omega) ?_ | refine br_nd (by omega) ?_ | refine setB_app0 ?_ | rw [getB_app0] | refine addB_f0 ?_); conv => whnf)
    exact ⟨rfl, _, rfl⟩
section
variable {M : List Blk} (hm : Top M) (hsc : scM M.length M = true) {j : Nat} {w : Bool} {Be : List Nat} (hj : getB M j = ⟨w, .flts Be⟩) (hw : ∀ i, i < Be.length → inF (Be.getD i 0)) (hs : Be.length ≤ 17592186044416)
include hm hsc hj hw hs
section
variable {n : Nat} (hn : 1 ≤ n) (hn' : n ≤ 32)
include hn hn'
theorem Lake_size (hB : Be.length ≠ 6 * (n * n)) (h : Nat) : COk Tryz.prog 3 40 [I n, .sl j 0 Be.length, F h] M (.tup [seaN, I 12]) M := by
  have hlt : j < M.length := getB_lt hj rfl
  have u0 : Up M (M ++ ([sBx nilS' nilS' nilS' nilS' 0 0] : List Blk)) := Up.of hsc (by simp [scM, B.sc, scL, V.sc])
  obtain ⟨b, M1, hnew, N, u1⟩ := new_up (hm.up u0) u0.sc n hn hn'
  obtain ⟨x, hM1⟩ := u1.ex
  have ux := u0.trans u1
  have hj1 : getB M1 j = ⟨w, .flts Be⟩ := by obtain ⟨x, rfl⟩ := ux.ex; exact getB_in hj rfl
  have hfl := floats_ok u1.sc (hm.up ux).ng (SlF.whole hj1 hw hs) rfl mxH
  have hgc := gcells_ok (N.more [])
  simp only [List.append_nil] at hgc
  have hset : ∀ (c : Blk) (K : List Blk → Prop), K (M ++ [c] ++ x) → setB M1 M.length c K := fun c K hk => by
    rw [hM1, List.append_assoc]
    refine setB_app0 ?_
    simpa using hk
  have hgl : getB M1 M.length = sBx nilS' nilS' nilS' nilS' 0 0 := by
    rw [hM1, List.append_assoc]
    exact getB_app0
  have hgr : ∀ (c : Blk), getB (M ++ [c] ++ x) M.length = c := fun c => by
    rw [List.append_assoc]
    exact getB_app0
  refine COk_quiet Tryz.f40 Tryz.func40 (by kernel_rfl) rfl ?_
  (conv => whnf); repeat ((first | refine ⟨_, _, hnew, ?_⟩ | refine ⟨_, _, hgc, ?_⟩ | refine br_yes (bne_iff_ne.2 (by omega)) ?_ | rw [hgl] | refine hset _ _ ?_ | rw [hgr] | refine addB_f0 ?_); conv => whnf)
  exact ⟨rfl, _, by rw [List.append_assoc]⟩
theorem Lake_bed (hB : Be.length = 6 * (n * n)) (hb : 0 ≤ flI Be mxH) (h : Nat) : COk Tryz.prog 3 40 [I n, .sl j 0 Be.length, F h] M (.tup [seaN, I 13]) M := by
  have hlt : j < M.length := getB_lt hj rfl
  have u0 : Up M (M ++ ([sBx nilS' nilS' nilS' nilS' 0 0] : List Blk)) := Up.of hsc (by simp [scM, B.sc, scL, V.sc])
  obtain ⟨b, M1, hnew, N, u1⟩ := new_up (hm.up u0) u0.sc n hn hn'
  obtain ⟨x, hM1⟩ := u1.ex
  have ux := u0.trans u1
  have hj1 : getB M1 j = ⟨w, .flts Be⟩ := by obtain ⟨x, rfl⟩ := ux.ex; exact getB_in hj rfl
  have hfl := floats_ok u1.sc (hm.up ux).ng (SlF.whole hj1 hw hs) rfl mxH
  have hgc := gcells_ok (N.more [])
  simp only [List.append_nil] at hgc
  have hset : ∀ (c : Blk) (K : List Blk → Prop), K (M ++ [c] ++ x) → setB M1 M.length c K := fun c K hk => by
    rw [hM1, List.append_assoc]
    refine setB_app0 ?_
    simpa using hk
  have hgl : getB M1 M.length = sBx nilS' nilS' nilS' nilS' 0 0 := by
    rw [hM1, List.append_assoc]
    exact getB_app0
  have hgr : ∀ (c : Blk), getB (M ++ [c] ++ x) M.length = c := fun c => by
    rw [List.append_assoc]
    exact getB_app0
  refine COk_quiet Tryz.f40 Tryz.func40 (by kernel_rfl) rfl ?_
  (conv => whnf); repeat ((first | refine ⟨_, _, hnew, ?_⟩ | refine ⟨_, _, hgc, ?_⟩ | refine ⟨_, _, hfl, ?_⟩ | refine br_no (bo_eqn (by omega)) ?_ | rw [hgl] | refine hset _ _ ?_ | rw [hgr] | refine br_d (by omega) ?_ | refine addB_f0 ?_); conv => whnf)
  exact ⟨rfl, _, by rw [List.append_assoc]⟩
theorem Lake_high (hB : Be.length = 6 * (n * n)) (hb : ¬ 0 ≤ flI Be mxH) {h : Nat} (hh : highB h = false) : COk Tryz.prog 3 40 [I n, .sl j 0 Be.length, F h] M (.tup [seaN, I 1]) M := by
  have hlt : j < M.length := getB_lt hj rfl
  have u0 : Up M (M ++ ([sBx nilS' nilS' nilS' nilS' 0 0] : List Blk)) := Up.of hsc (by simp [scM, B.sc, scL, V.sc])
  obtain ⟨b, M1, hnew, N, u1⟩ := new_up (hm.up u0) u0.sc n hn hn'
  obtain ⟨x, hM1⟩ := u1.ex
  have ux := u0.trans u1
  have hj1 : getB M1 j = ⟨w, .flts Be⟩ := by obtain ⟨x, rfl⟩ := ux.ex; exact getB_in hj rfl
  have hfl := floats_ok u1.sc (hm.up ux).ng (SlF.whole hj1 hw hs) rfl mxH
  have hgc := gcells_ok (N.more [])
  simp only [List.append_nil] at hgc
  have hset : ∀ (c : Blk) (K : List Blk → Prop), K (M ++ [c] ++ x) → setB M1 M.length c K := fun c K hk => by
    rw [hM1, List.append_assoc]
    refine setB_app0 ?_
    simpa using hk
  have hgl : getB M1 M.length = sBx nilS' nilS' nilS' nilS' 0 0 := by
    rw [hM1, List.append_assoc]
    exact getB_app0
  have hgr : ∀ (c : Blk), getB (M ++ [c] ++ x) M.length = c := fun c => by
    rw [List.append_assoc]
    exact getB_app0
  unfold highB at hh
  refine COk_quiet Tryz.f40 Tryz.func40 (by kernel_rfl) rfl ?_
  cases h1 : fge (some h) (some mnH) with
  | false =>
    (conv => whnf); repeat ((first | refine ⟨_, _, hnew, ?_⟩ | refine ⟨_, _, hgc, ?_⟩ | refine ⟨_, _, hfl, ?_⟩ | refine br_no (bo_eqn (by omega)) ?_ | refine br_no h1 ?_ | rw [hgl] | refine hset _ _ ?_ | rw [hgr] | refine br_nd (by omega) ?_ | refine addB_f0 ?_); conv => whnf)
    exact ⟨rfl, _, by rw [List.append_assoc]⟩
  | true =>
    rw [h1, Bool.true_and] at hh
    (conv => whnf); repeat ((first | refine ⟨_, _, hnew, ?_⟩ | refine ⟨_, _, hgc, ?_⟩ | refine ⟨_, _, hfl, ?_⟩ | refine br_no (bo_eqn (by omega)) ?_ | refine br_yes h1 ?_ | refine br_yes (congrArg not hh) ?_ | rw [hgl] | refine hset _ _ ?_ | rw [hgr] | refine br_nd (by omega) ?_ | refine addB_f0 ?_); conv => whnf)
    exact ⟨rfl, _, by rw [List.append_assoc]⟩
end
end
section
variable {M : List Blk} (hm : Top M) (hsc : scM M.length M = true) {j : Nat} {w : Bool} {Be : List Nat} (hj : getB M j = ⟨w, .flts Be⟩) (hw : ∀ i, i < Be.length → inF (Be.getD i 0)) (hs : Be.length ≤ 17592186044416) {n : Nat} (hn : 1 ≤ n) (hn' : n ≤ 32) (hB : Be.length = 6 * (n * n)) (hb : ¬ 0 ≤ flI Be mxH) {h : Nat} (hh : highB h = true)
include hm hsc hj hw hs hn hn' hB hb hh
set_option maxHeartbeats 0 in
theorem Lake_water (hq : 0 ≤ quI (tab Be.length (lakW n Be h)) 0) : COk Tryz.prog 3 40 [I n, .sl j 0 Be.length, F h] M (.tup [seaN, I 14]) M := by
  have hlt : j < M.length := getB_lt hj rfl
  have hlen := edges_len hn
  have hsq : n * n ≤ 1024 := Nat.mul_le_mul hn' hn'
  have hsq1 : 1 ≤ n * n := Nat.mul_le_mul hn hn
  have u0 : Up M (M ++ ([sBx nilS' nilS' nilS' nilS' 0 0] : List Blk)) := Up.of hsc (by simp [scM, B.sc, scL, V.sc])
  obtain ⟨b, M1, hnew, N, u1⟩ := new_up (hm.up u0) u0.sc n hn hn'
  obtain ⟨x, hM1⟩ := u1.ex
  have ux := u0.trans u1
  have hj1 : getB M1 j = ⟨w, .flts Be⟩ := by obtain ⟨x, rfl⟩ := ux.ex; exact getB_in hj rfl
  have hng := (hm.up ux).ng
  have S1 := SlF.whole hj1 hw hs
  have hfl := floats_ok u1.sc hng S1 rfl mxH
  have hgc := gcells_ok (N.more [])
  have hge := fun z => gedges_ok (N.more z)
  have hge0 := hge []
  simp only [List.append_nil] at hgc hge0
  have hcl := clone_made u1.sc hj1 rfl (by omega) hs
  unfold highB at hh
  rw [Bool.and_eq_true] at hh
  have hnl := N.lt
  have hl1 : M.length + 1 ≤ M1.length := by have := u1.len; simpa using this
  refine COk_quiet Tryz.f40 Tryz.func40 (by kernel_rfl) rfl ?_
  (conv => whnf); repeat ((first | refine ⟨_, _, hnew, ?_⟩ | refine ⟨_, _, hgc, ?_⟩ | refine ⟨_, _, hfl, ?_⟩ | refine br_no (bo_eqn (by omega)) ?_ | refine br_yes hh.1 ?_ | refine br_no (congrArg not hh.2) ?_ | refine ⟨.sl Be.length Be.length, .flts Be, hcl, ?_⟩ | refine ⟨_, hge0, ?_⟩ | refine And_of (by (conv => whnf); first | exact ⟨_, hge0, rfl⟩ | exact ⟨_, hge _, rfl⟩) ?_ | refine br_d ⟨by omega, by omega, by omega, (by show (8 : Int) * _ ≤ 2 ^ 48; omega)⟩ ?_ | refine br_nd (by omega) ?_ | refine Or.inl ?_ | refine okS_no (by kernel_rfl) ?_ | refine setB_app ?_ | rw [getB_app] | refine addB_f3 ?_ | refine addB_f2 ?_ | refine addB_f1 ?_ | refine addB_f0 ?_); conv => whnf)
  refine lr ?_
  have ha := fun z c hc => area_ok (N.more z) c hc
  (conv => whnf); repeat ((first | refine SlF.at (S1.app _) (i := 0) (by omega) rfl ?_ | refine ⟨_, ha _ 0 (by omega), ?_⟩ | refine ⟨_, fill_ok _ _ _ _, ?_⟩ | refine ⟨⟨by decide, (by show 1 * 8 ≤ 140737488355328; decide)⟩, ?_⟩ | refine br_d (by omega) ?_ | refine setB_app ?_ | rw [getB_app] | refine addB_f5 ?_ | refine addB_f4 ?_); conv => whnf)
  have hscm : ∀ (k : Nat) (W : List Int), scM (M1 ++ lakR M1 n Be h k W).length (M1 ++ lakR M1 n Be h k W) = true := fun k W => scM_app (scM_mono (by simp) _ u1.sc) (by simp [lakR, scM, B.sc, scL, V.sc])
  refine loop_to (fun k => [I n, .sl j 0 Be.length, F h, .any, .any, .any, .ptr M.length 0, .any, .ptr (b + 1) 0, .any, .ptr (M1.length + 3) 0, .any, .any, .any, .any, .any, .any, .any, .any, .any, .any, .any, .any, .any, .any, .any, .any, .any, .any, .any, .any, .any, .any, .any, .any, .any, .any, .any, .any, .any, .any, .any, .any, .any, .any, .any, .any, .any, .any, .any, .any, .any, .any, .sl j 0 Be.length, I Be.length, I k, .any, .any, .any, .any, .any, .any, .any, .any, .any, .any, .any, .any, .any, .any, .any, .any, .any, .any, .any, .any, .any, .any]) (fun k => M1 ++ lakR M1 n Be h k (tab k (lakW n Be h))) 1 Be.length (by omega) ?_ ?_ ?_
  · refine Fg.of [] ?_ (by rw [List.append_nil]; rfl) (by simp [lakR]) (by first | (simp [scL, V.sc, lakR]; done) | (simp [scL, V.sc, lakR]; omega)) (hscm _ _)
    conv => whnf
    exact ⟨rfl, rfl, rfl, rfl, rfl, rfl, rfl, rfl, wrapKV (k := 0) (by decide), rfl⟩
  · intro c hc1 hc2
    obtain ⟨v, rfl⟩ : ∃ v, c = v + 1 := ⟨c - 1, by omega⟩
    unfold lakR
    have hlw : fillF (Be.getD (v + 1) 0) (areaC n (v + 1)) h = lakW n Be h (v + 1) := rfl
    (conv => whnf); repeat ((first | refine SlF.at (S1.app _) (i := v + 1) (by omega) rfl ?_ | refine ⟨_, ha _ (v + 1) (by omega), ?_⟩ | refine ⟨_, fill_ok _ _ _ _, ?_⟩ | refine br_d (by omega) ?_ | rw [getB_app] | refine addB_f6 ?_); conv => whnf)
    refine ⟨⟨rfl, rfl, (by show (tab (v + 1) (lakW n Be h)).length = (v + 1) * 1; rw [tab_len]; omega), (by show (v + 1 + 1) * 8 ≤ _; omega)⟩, ?_⟩
    (conv => whnf); repeat ((first | refine setB_app ?_ | rw [getB_app]); conv => whnf)
    refine Fg.of [_] ?_ (by rw [List.append_assoc, show v + 1 + 1 - 1 = v + 1 from rfl, tab_succ (v + 1)]; rfl) (by simp [lakR]) (by first | (simp [scL, V.sc, lakR]; done) | (simp [scL, V.sc, lakR]; omega)) (hscm _ _)
    conv => whnf
    exact ⟨rfl, rfl, rfl, rfl, rfl, rfl, rfl, rfl, wrapKL (by omega), rfl⟩
  · have hqu := quanta_gs (M := M1) (n := n) (Be := Be) (h := h) u1.sc hng (by omega) hs
    have e0 : Be.length - 1 + 1 = Be.length := by omega
    unfold lakR at hqu ⊢
    have e0 : M1.length = (M ++ [sBx nilS' nilS' nilS' nilS' 0 0] ++ x).length := by rw [hM1]
    have hset : ∀ (l : List Blk) (c : Blk) (K : List Blk → Prop), K (M ++ [c] ++ x ++ l) → setB (M1 ++ l) M.length c K := fun l c K hk => by
      rw [hM1, List.append_assoc, List.append_assoc]
      refine setB_app0 ?_
      simpa using hk
    have hgl : ∀ l : List Blk, getB (M1 ++ l) M.length = sBx nilS' nilS' nilS' nilS' 0 0 := fun l => by
      rw [hM1, List.append_assoc, List.append_assoc]
      exact getB_app0
    have hgr : ∀ (c : Blk) (l : List Blk), getB (M ++ [c] ++ x ++ l) M.length = c := fun c l => by
      rw [List.append_assoc, List.append_assoc]
      exact getB_app0
    (conv => whnf); repeat ((first | refine ⟨_, _, hqu, ?_⟩ | refine br_yes (decide_eq_true hq) ?_ | rw [hgl] | refine hset _ _ _ ?_ | rw [hgr] | refine br_nd (by omega) ?_ | rw [getB_app]); conv => whnf)
    exact ⟨rfl, _, by rw [List.append_assoc, List.append_assoc]⟩
end
/- The reference's net for a lake. -/
section
variable {M : List Blk} (hm : Top M) (hsc : scM M.length M = true) {j : Nat} {w : Bool} {Be : List Nat} (hj : getB M j = ⟨w, .flts Be⟩) (hw : ∀ i, i < Be.length → inF (Be.getD i 0)) (hs : Be.length ≤ 17592186044416) {n : Nat} (hn : 1 ≤ n) (hn' : n ≤ 32)
include hm hsc hj hw hs hn hn'
theorem rLake_size (hB : Be.length ≠ 6 * (n * n)) (h : Nat) : COk Tryz.prog 3 41 [I n, .sl j 0 Be.length, F h] M (.tup [seaN, I 12]) M := by
  have hlt : j < M.length := getB_lt hj rfl
  have hlen := edges_len hn
  have hsq : n * n ≤ 1024 := Nat.mul_le_mul hn' hn'
  have hsq1 : 1 ≤ n * n := Nat.mul_le_mul hn hn
  have u0 : Up M (M ++ ([sBx nilS' nilS' nilS' nilS' 0 0] : List Blk)) := Up.of hsc (by simp [scM, B.sc, scL, V.sc])
  have hj0 : getB (M ++ ([sBx nilS' nilS' nilS' nilS' 0 0] : List Blk)) j = ⟨w, .flts Be⟩ := getB_in hj rfl
  have S0 := SlF.whole hj0 hw hs
  have hfl := rfloats_ok u0.sc (hm.up u0).ng S0 rfl mxH
  have hsix : IntKind.i64.wrap (IntKind.i64.wrap (6 * (n : Int)) * n) = ((6 * (n * n) : Nat) : Int) := by
    rw [wrap_id (n := 6 * (n : Int)) (by omega) (by omega), Int.mul_assoc, wrap_id (by omega) (by omega)]
    push_cast
    rfl
  refine COk_quiet Tryz.f41 Tryz.func41 (by kernel_rfl) rfl ?_
  (conv => whnf); repeat ((first | rw [hsix] | refine br_yes (bne_iff_ne.2 (by omega)) ?_ | refine br_nd (by omega) ?_ | refine setB_app0 ?_ | rw [getB_app0] | refine addB_f0 ?_); conv => whnf)
  exact ⟨rfl, _, rfl⟩
theorem rLake_bed (hB : Be.length = 6 * (n * n)) (hb : 0 ≤ flI Be mxH) (h : Nat) : COk Tryz.prog 3 41 [I n, .sl j 0 Be.length, F h] M (.tup [seaN, I 13]) M := by
  have hlt : j < M.length := getB_lt hj rfl
  have hlen := edges_len hn
  have hsq : n * n ≤ 1024 := Nat.mul_le_mul hn' hn'
  have hsq1 : 1 ≤ n * n := Nat.mul_le_mul hn hn
  have u0 : Up M (M ++ ([sBx nilS' nilS' nilS' nilS' 0 0] : List Blk)) := Up.of hsc (by simp [scM, B.sc, scL, V.sc])
  have hj0 : getB (M ++ ([sBx nilS' nilS' nilS' nilS' 0 0] : List Blk)) j = ⟨w, .flts Be⟩ := getB_in hj rfl
  have S0 := SlF.whole hj0 hw hs
  have hfl := rfloats_ok u0.sc (hm.up u0).ng S0 rfl mxH
  have hsix : IntKind.i64.wrap (IntKind.i64.wrap (6 * (n : Int)) * n) = ((6 * (n * n) : Nat) : Int) := by
    rw [wrap_id (n := 6 * (n : Int)) (by omega) (by omega), Int.mul_assoc, wrap_id (by omega) (by omega)]
    push_cast
    rfl
  refine COk_quiet Tryz.f41 Tryz.func41 (by kernel_rfl) rfl ?_
  (conv => whnf); repeat ((first | rw [hsix] | refine ⟨_, _, hfl, ?_⟩ | refine br_no (bo_eqn (by omega)) ?_ | refine br_d (by omega) ?_ | refine br_nd (by omega) ?_ | refine setB_app0 ?_ | rw [getB_app0] | refine addB_f0 ?_); conv => whnf)
  exact ⟨rfl, _, rfl⟩
theorem rLake_high (hB : Be.length = 6 * (n * n)) (hb : ¬ 0 ≤ flI Be mxH) {h : Nat} (hh : highB h = false) : COk Tryz.prog 3 41 [I n, .sl j 0 Be.length, F h] M (.tup [seaN, I 1]) M := by
  have hlt : j < M.length := getB_lt hj rfl
  have hlen := edges_len hn
  have hsq : n * n ≤ 1024 := Nat.mul_le_mul hn' hn'
  have hsq1 : 1 ≤ n * n := Nat.mul_le_mul hn hn
  have u0 : Up M (M ++ ([sBx nilS' nilS' nilS' nilS' 0 0] : List Blk)) := Up.of hsc (by simp [scM, B.sc, scL, V.sc])
  have hj0 : getB (M ++ ([sBx nilS' nilS' nilS' nilS' 0 0] : List Blk)) j = ⟨w, .flts Be⟩ := getB_in hj rfl
  have S0 := SlF.whole hj0 hw hs
  have hfl := rfloats_ok u0.sc (hm.up u0).ng S0 rfl mxH
  have hsix : IntKind.i64.wrap (IntKind.i64.wrap (6 * (n : Int)) * n) = ((6 * (n * n) : Nat) : Int) := by
    rw [wrap_id (n := 6 * (n : Int)) (by omega) (by omega), Int.mul_assoc, wrap_id (by omega) (by omega)]
    push_cast
    rfl
  unfold highB at hh
  refine COk_quiet Tryz.f41 Tryz.func41 (by kernel_rfl) rfl ?_
  cases h1 : fge (some h) (some mnH) with
  | false =>
    (conv => whnf); repeat ((first | rw [hsix] | refine ⟨_, _, hfl, ?_⟩ | refine br_no (bo_eqn (by omega)) ?_ | refine br_no h1 ?_ | refine br_nd (by omega) ?_ | refine setB_app0 ?_ | rw [getB_app0] | refine addB_f0 ?_); conv => whnf)
    exact ⟨rfl, _, rfl⟩
  | true =>
    rw [h1, Bool.true_and] at hh
    (conv => whnf); repeat ((first | rw [hsix] | refine ⟨_, _, hfl, ?_⟩ | refine br_no (bo_eqn (by omega)) ?_ | refine br_yes h1 ?_ | refine br_yes (congrArg not hh) ?_ | refine br_nd (by omega) ?_ | refine setB_app0 ?_ | rw [getB_app0] | refine addB_f0 ?_); conv => whnf)
    exact ⟨rfl, _, rfl⟩
end
theorem roundT_in64 {o : Option Nat} (hw : Wd o) : in64 (roundT o) := by
  have hi := infR_eq
  cases o with
  | none => decide
  | some b =>
    rcases nan_or (hw b rfl) with hn | ⟨s, R, hR, rfl⟩
    · rw [roundT_nan hn]; decide
    · rw [roundT_wd s hR]
      by_cases h : R < wholeB
      · have hz := (near_is h).choose_spec.2.2
        rw [if_pos h]
        cases s
        · rw [if_neg (by decide)]; exact ⟨by omega, by omega⟩
        · rw [if_pos rfl]; exact ⟨by omega, by omega⟩
      · rw [if_neg h]
        split <;> decide
theorem areaC_in (n c : Nat) : in64 (areaC n c) := by
  unfold areaC areaT
  simp only
  have := roundT_in64 (o := areaY (cornerF n (c / (n * n)) (c % n) (c / n % n)) (cornerF n (c / (n * n)) (c % n + 1) (c / n % n)) (cornerF n (c / (n * n)) (c % n + 1) (c / n % n + 1)) (cornerF n (c / (n * n)) (c % n) (c / n % n + 1))) (fmul_lt' _ _)
  split
  · decide
  · exact this
/-- The box of the lake that is answered, and what lies behind the net. -/
def rlB (M1 : List Blk) (N E : Nat) : Blk := sBx (.sl M1.length 0 N) (.sl (M1.length + 1) 0 N) (.sl (M1.length + 2) 0 N) (.sl (M1.length + 3) 0 E) 0 0
def rlR (M1 : List Blk) (N E : Nat) (Be : List Nat) (W : List Int) : List Blk :=
  [⟨true, .flts Be⟩, ⟨true, .ints .i64 W⟩, ⟨true, .ints .i64 (List.replicate (N * 1) 0)⟩, ⟨true, .flts (List.replicate (E * 1) 0)⟩, rlB M1 N E]
theorem copied_made {M : List Blk} (hsc : scM M.length M = true) {j n : Nat} {w : Bool} {l : List Nat} (hj : getB M j = ⟨w, .flts l⟩) (hn : l.length = n) (hs : n ≤ 17592186044416) :
    (Sh2.sl n n).ok ∧ (B.flts l).nums = true ∧ COk Tryz.prog 3 102 [.sl j 0 n] (shutM M) (mkV2 (.sl n n) M.length) (shutM M ++ [⟨true, .flts l⟩]) := by
  have h := rawCopied_ok (M := shutM M) (by rw [shutM_len]; exact shutM_sc _ _ hsc) (getB_shut hj (getB_lt hj rfl)) (n := n) (by omega) hs
  rw [shutM_len, List.take_of_length_le (by omega)] at h
  exact ⟨Nat.le_refl _, rfl, h⟩
section
variable {M : List Blk} (hm : Top M) (hsc : scM M.length M = true) {j : Nat} {w : Bool} {Be : List Nat} (hj : getB M j = ⟨w, .flts Be⟩) (hw : ∀ i, i < Be.length → inF (Be.getD i 0)) (hs : Be.length ≤ 17592186044416) {n : Nat} (hn : 1 ≤ n) (hn' : n ≤ 32) (hB : Be.length = 6 * (n * n)) (hb : ¬ 0 ≤ flI Be mxH) {h : Nat} (hh : highB h = true)
include hm hsc hj hw hs hn hn' hB hb hh
set_option maxHeartbeats 0 in
theorem rLake_raw {b : Nat} {M1 x : List Blk} (hM1 : M1 = M ++ [sBx nilS' nilS' nilS' nilS' 0 0] ++ x) (hnew : COk Tryz.prog 3 16 [I n] (M ++ [sBx nilS' nilS' nilS' nilS' 0 0]) (.tup [.ptr (b + 1) 0, I 0]) M1) (N : RNet M1 b n) (u1 : Up (M ++ [sBx nilS' nilS' nilS' nilS' 0 0]) M1)
    (hq : quI (tab Be.length (lakW n Be h)) 0 = -1) : COk Tryz.prog 3 41 [I n, .sl j 0 Be.length, F h] M (.tup [seaV M1.length (M1.length + 1) (M1.length + 2) (M1.length + 3) Be.length Be.length Be.length (2 * Be.length) 0 0, I 0])
      (M ++ [rlB M1 Be.length (2 * Be.length)] ++ x ++ rlR M1 Be.length (2 * Be.length) Be (tab Be.length (lakW n Be h))) := by
  have hlt : j < M.length := getB_lt hj rfl
  have hlen := edges_len hn
  have hsq : n * n ≤ 1024 := Nat.mul_le_mul hn' hn'
  have hsq1 : 1 ≤ n * n := Nat.mul_le_mul hn hn
  have u0 : Up M (M ++ ([sBx nilS' nilS' nilS' nilS' 0 0] : List Blk)) := Up.of hsc (by simp [scM, B.sc, scL, V.sc])
  have hj0 : getB (M ++ ([sBx nilS' nilS' nilS' nilS' 0 0] : List Blk)) j = ⟨w, .flts Be⟩ := getB_in hj rfl
  have S0 := SlF.whole hj0 hw hs
  have hfl := rfloats_ok u0.sc (hm.up u0).ng S0 rfl mxH
  have hsix : IntKind.i64.wrap (IntKind.i64.wrap (6 * (n : Int)) * n) = ((6 * (n * n) : Nat) : Int) := by
    rw [wrap_id (n := 6 * (n : Int)) (by omega) (by omega), Int.mul_assoc, wrap_id (by omega) (by omega)]
    push_cast
    rfl
  have hlen := edges_len hn
  have ux := u0.trans u1
  have hj1 : getB M1 j = ⟨w, .flts Be⟩ := by obtain ⟨x, rfl⟩ := ux.ex; exact getB_in hj rfl
  have hm1 := hm.up ux
  have S1 := SlF.whole hj1 hw hs
  have hcl := copied_made u1.sc hj1 rfl hs
  unfold highB at hh
  rw [Bool.and_eq_true] at hh
  have hnl := N.lt
  have hl1 : M1.length = M.length + 1 + x.length := by rw [hM1]; simp; omega
  have h2c : IntKind.i64.wrap (2 * ((6 * (n * n) : Nat) : Int)) = ((2 * (6 * (n * n)) : Nat) : Int) := by rw [wrap_id (by omega) (by omega)]; push_cast; rfl
  have hx : scM M1.length x = true := by
    have := u1.sc
    rw [hM1] at this ⊢
    exact (scM_of_app this).2
  have hscL : scM (M ++ [rlB M1 Be.length (2 * Be.length)] ++ x ++ rlR M1 Be.length (2 * Be.length) Be (tab Be.length (lakW n Be h))).length (M ++ [rlB M1 Be.length (2 * Be.length)] ++ x ++ rlR M1 Be.length (2 * Be.length) Be (tab Be.length (lakW n Be h))) = true := by
    have hl : (M ++ [rlB M1 Be.length (2 * Be.length)] ++ x ++ rlR M1 Be.length (2 * Be.length) Be (tab Be.length (lakW n Be h))).length = M1.length + 5 := by
      rw [hM1]; simp [rlR]; omega
    rw [hl]
    refine scM_app (scM_app (scM_app (scM_mono (by omega) _ hsc) ?_) (scM_mono (by omega) _ hx)) ?_
    · simp [scM, B.sc, scL, V.sc, rlB]
    · simp [rlR, scM, B.sc, scL, V.sc, rlB]
  refine COk_of_ev Tryz.f41 Tryz.func41 (by kernel_rfl) (by simp [rlR]) (by simp [V.sc, scL, rlR, hM1]; omega) (.inr hscL) ?_
  (conv => whnf); repeat ((first | rw [hsix] | refine ⟨_, _, hfl, ?_⟩ | refine br_no (bo_eqn (by omega)) ?_ | refine br_yes hh.1 ?_ | refine br_no (congrArg not hh.2) ?_ | refine ⟨_, _, hnew, ?_⟩ | rw [h2c] | refine ⟨.sl Be.length Be.length, .flts Be, hcl, ?_⟩ | refine br_d ⟨by omega, by omega, by omega, (by show (8 : Int) * _ ≤ 2 ^ 48; omega)⟩ ?_ | refine br_nd (by omega) ?_ | refine Or.inl ?_ | refine setB_app ?_ | rw [getB_app] | refine addB_f4 ?_ | refine addB_f3 ?_ | refine addB_f2 ?_ | refine addB_f1 ?_ | refine addB_f0 ?_); conv => whnf)
  have hscm : ∀ (W : List Int), scM (M1 ++ rlR M1 Be.length (2 * Be.length) Be W).length (M1 ++ rlR M1 Be.length (2 * Be.length) Be W) = true := fun W => scM_app (scM_mono (by simp) _ u1.sc) (by simp [rlR, rlB, scM, B.sc, scL, V.sc])
  have z1 := pre_0 Be.length (lakW n Be h) 0
  rw [← hB]
  refine loop_to (fun k => [I n, .sl j 0 Be.length, F h, .any, .any, .any, .ptr M.length 0, .any, I Be.length, .any, .ptr (b + 1) 0, .any, .ptr (M1.length + 4) 0, I k, .any, .any, .any, .any, .any, .any, .any, .any, .any, .any, .any, .any, .any, .any, .any, .any, .any, .any, .any, .any, .any, .any, .any, .any, .any, .any, .any, .any, .any, .any, .any, .any, .any, .any, .any, .any, .any, .any, .any, .any, .any, .any, .any, .any, .any, .any, .any, .any, .any, .any, .any, .any, .any, .any, .any, .any, .any, .any, .any, .any, .any, .any, .any, .any, .any, .any, .any, .any]) (fun k => M1 ++ rlR M1 Be.length (2 * Be.length) Be (tab Be.length (preT k (lakW n Be h) 0))) 0 Be.length (Nat.zero_le _) ?_ ?_ ?_
  · refine Fg.of [] ?_ (by rw [List.append_nil, ← z1]; rfl) (by simp [rlR]) (by first | (simp [scL, V.sc, rlR]; done) | (simp [scL, V.sc, rlR]; omega)) (hscm _)
    conv => whnf
    exact ⟨rfl, rfl, rfl, rfl, rfl, rfl, rfl, rfl, rfl⟩
  · intro c _ hc
    have ha := fun z => rgarea_ok (hm1.app z) (N.more z) hn hn' (show c < 6 * (n * n) by omega)
    have hai : in64 (areaC n c) := areaC_in n c
    have hfi := fun m => rfill_ok (Be.getD c 0) (areaC n c) h hai m
    have e1 := pre_set (N := Be.length) (k := c) (lakW n Be h) 0
    unfold rlR
    (conv => whnf); repeat ((first | refine SlF.at (S1.app _) (i := c) hc rfl ?_ | refine ⟨_, ha _, ?_⟩ | refine ⟨_, hfi _, ?_⟩ | refine br_yes (tab_blt hc) ?_ | refine put_at (blkI e1) ?_ | refine br_d (by omega) ?_ | rw [getB_app]); conv => whnf)
    refine Fg.of [] ?_ (by rw [List.append_nil]; rfl) (by simp [rlR]) (by first | (simp [scL, V.sc, rlR]; done) | (simp [scL, V.sc, rlR]; omega)) (hscm _)
    conv => whnf
    exact ⟨rfl, rfl, rfl, rfl, rfl, rfl, rfl, wrapKL (by omega), rfl⟩
  · rw [pre_end]
    have hqS : SlI (M1 ++ rlR M1 Be.length (2 * Be.length) Be (tab Be.length (lakW n Be h))) (M1.length + 1) 0 (tab Be.length (lakW n Be h)) := SlI.tab (getB_app 1) (fun i _ => fillF_in _ _ _) (by omega)
    have hqu := rquanta_ok (hscm _) (by simp; have := hm1.ng; omega) hqS (n := Be.length) (by rw [tab_len]) (z := 0) ⟨Int.le_refl _, by decide⟩
    have hset : ∀ (l : List Blk) (c : Blk) (K : List Blk → Prop), K (M ++ [c] ++ x ++ l) → setB (M1 ++ l) M.length c K := fun l c K hk => by
      rw [hM1, List.append_assoc, List.append_assoc]
      refine setB_app0 ?_
      simpa using hk
    have hgl : ∀ l : List Blk, getB (M1 ++ l) M.length = sBx nilS' nilS' nilS' nilS' 0 0 := fun l => by
      rw [hM1, List.append_assoc, List.append_assoc]
      exact getB_app0
    have hgr : ∀ (c : Blk) (l : List Blk), getB (M ++ [c] ++ x ++ l) M.length = c := fun c l => by
      rw [List.append_assoc, List.append_assoc]
      exact getB_app0
    rw [hq] at hqu
    unfold rlR rlB at hqu ⊢
    (conv => whnf); repeat ((first | refine ⟨_, _, hqu, ?_⟩ | rw [hgl] | refine hset _ _ _ ?_ | rw [hgr] | refine br_nd (by omega) ?_ | rw [getB_app]); conv => whnf)
    refine ⟨rfl, [], ?_⟩
    rw [List.append_nil]
set_option maxHeartbeats 0 in
theorem rLake_bad {b : Nat} {M1 x : List Blk} (hM1 : M1 = M ++ [sBx nilS' nilS' nilS' nilS' 0 0] ++ x) (hnew : COk Tryz.prog 3 16 [I n] (M ++ [sBx nilS' nilS' nilS' nilS' 0 0]) (.tup [.ptr (b + 1) 0, I 0]) M1) (N : RNet M1 b n) (u1 : Up (M ++ [sBx nilS' nilS' nilS' nilS' 0 0]) M1)
    (hq : 0 ≤ quI (tab Be.length (lakW n Be h)) 0) : COk Tryz.prog 3 41 [I n, .sl j 0 Be.length, F h] M (.tup [seaN, I 14]) M := by
  have hlt : j < M.length := getB_lt hj rfl
  have hlen := edges_len hn
  have hsq : n * n ≤ 1024 := Nat.mul_le_mul hn' hn'
  have hsq1 : 1 ≤ n * n := Nat.mul_le_mul hn hn
  have u0 : Up M (M ++ ([sBx nilS' nilS' nilS' nilS' 0 0] : List Blk)) := Up.of hsc (by simp [scM, B.sc, scL, V.sc])
  have hj0 : getB (M ++ ([sBx nilS' nilS' nilS' nilS' 0 0] : List Blk)) j = ⟨w, .flts Be⟩ := getB_in hj rfl
  have S0 := SlF.whole hj0 hw hs
  have hfl := rfloats_ok u0.sc (hm.up u0).ng S0 rfl mxH
  have hsix : IntKind.i64.wrap (IntKind.i64.wrap (6 * (n : Int)) * n) = ((6 * (n * n) : Nat) : Int) := by
    rw [wrap_id (n := 6 * (n : Int)) (by omega) (by omega), Int.mul_assoc, wrap_id (by omega) (by omega)]
    push_cast
    rfl
  have hlen := edges_len hn
  have ux := u0.trans u1
  have hj1 : getB M1 j = ⟨w, .flts Be⟩ := by obtain ⟨x, rfl⟩ := ux.ex; exact getB_in hj rfl
  have hm1 := hm.up ux
  have S1 := SlF.whole hj1 hw hs
  have hcl := copied_made u1.sc hj1 rfl hs
  unfold highB at hh
  rw [Bool.and_eq_true] at hh
  have hnl := N.lt
  have hl1 : M1.length = M.length + 1 + x.length := by rw [hM1]; simp; omega
  have h2c : IntKind.i64.wrap (2 * ((6 * (n * n) : Nat) : Int)) = ((2 * (6 * (n * n)) : Nat) : Int) := by rw [wrap_id (by omega) (by omega)]; push_cast; rfl
  refine COk_quiet Tryz.f41 Tryz.func41 (by kernel_rfl) rfl ?_
  (conv => whnf); repeat ((first | rw [hsix] | refine ⟨_, _, hfl, ?_⟩ | refine br_no (bo_eqn (by omega)) ?_ | refine br_yes hh.1 ?_ | refine br_no (congrArg not hh.2) ?_ | refine ⟨_, _, hnew, ?_⟩ | rw [h2c] | refine ⟨.sl Be.length Be.length, .flts Be, hcl, ?_⟩ | refine br_d ⟨by omega, by omega, by omega, (by show (8 : Int) * _ ≤ 2 ^ 48; omega)⟩ ?_ | refine br_nd (by omega) ?_ | refine Or.inl ?_ | refine setB_app ?_ | rw [getB_app] | refine addB_f4 ?_ | refine addB_f3 ?_ | refine addB_f2 ?_ | refine addB_f1 ?_ | refine addB_f0 ?_); conv => whnf)
  have hscm : ∀ (W : List Int), scM (M1 ++ rlR M1 Be.length (2 * Be.length) Be W).length (M1 ++ rlR M1 Be.length (2 * Be.length) Be W) = true := fun W => scM_app (scM_mono (by simp) _ u1.sc) (by simp [rlR, rlB, scM, B.sc, scL, V.sc])
  have z1 := pre_0 Be.length (lakW n Be h) 0
  rw [← hB]
  refine loop_to (fun k => [I n, .sl j 0 Be.length, F h, .any, .any, .any, .ptr M.length 0, .any, I Be.length, .any, .ptr (b + 1) 0, .any, .ptr (M1.length + 4) 0, I k, .any, .any, .any, .any, .any, .any, .any, .any, .any, .any, .any, .any, .any, .any, .any, .any, .any, .any, .any, .any, .any, .any, .any, .any, .any, .any, .any, .any, .any, .any, .any, .any, .any, .any, .any, .any, .any, .any, .any, .any, .any, .any, .any, .any, .any, .any, .any, .any, .any, .any, .any, .any, .any, .any, .any, .any, .any, .any, .any, .any, .any, .any, .any, .any, .any, .any, .any, .any]) (fun k => M1 ++ rlR M1 Be.length (2 * Be.length) Be (tab Be.length (preT k (lakW n Be h) 0))) 0 Be.length (Nat.zero_le _) ?_ ?_ ?_
  · refine Fg.of [] ?_ (by rw [List.append_nil, ← z1]; rfl) (by simp [rlR]) (by first | (simp [scL, V.sc, rlR]; done) | (simp [scL, V.sc, rlR]; omega)) (hscm _)
    conv => whnf
    exact ⟨rfl, rfl, rfl, rfl, rfl, rfl, rfl, rfl, rfl⟩
  · intro c _ hc
    have ha := fun z => rgarea_ok (hm1.app z) (N.more z) hn hn' (show c < 6 * (n * n) by omega)
    have hai : in64 (areaC n c) := areaC_in n c
    have hfi := fun m => rfill_ok (Be.getD c 0) (areaC n c) h hai m
    have e1 := pre_set (N := Be.length) (k := c) (lakW n Be h) 0
    unfold rlR
    (conv => whnf); repeat ((first | refine SlF.at (S1.app _) (i := c) hc rfl ?_ | refine ⟨_, ha _, ?_⟩ | refine ⟨_, hfi _, ?_⟩ | refine br_yes (tab_blt hc) ?_ | refine put_at (blkI e1) ?_ | refine br_d (by omega) ?_ | rw [getB_app]); conv => whnf)
    refine Fg.of [] ?_ (by rw [List.append_nil]; rfl) (by simp [rlR]) (by first | (simp [scL, V.sc, rlR]; done) | (simp [scL, V.sc, rlR]; omega)) (hscm _)
    conv => whnf
    exact ⟨rfl, rfl, rfl, rfl, rfl, rfl, rfl, wrapKL (by omega), rfl⟩
  · rw [pre_end]
    have hqS : SlI (M1 ++ rlR M1 Be.length (2 * Be.length) Be (tab Be.length (lakW n Be h))) (M1.length + 1) 0 (tab Be.length (lakW n Be h)) := SlI.tab (getB_app 1) (fun i _ => fillF_in _ _ _) (by omega)
    have hqu := rquanta_ok (hscm _) (by simp; have := hm1.ng; omega) hqS (n := Be.length) (by rw [tab_len]) (z := 0) ⟨Int.le_refl _, by decide⟩
    have hset : ∀ (l : List Blk) (c : Blk) (K : List Blk → Prop), K (M ++ [c] ++ x ++ l) → setB (M1 ++ l) M.length c K := fun l c K hk => by
      rw [hM1, List.append_assoc, List.append_assoc]
      refine setB_app0 ?_
      simpa using hk
    have hgl : ∀ l : List Blk, getB (M1 ++ l) M.length = sBx nilS' nilS' nilS' nilS' 0 0 := fun l => by
      rw [hM1, List.append_assoc, List.append_assoc]
      exact getB_app0
    have hgr : ∀ (c : Blk) (l : List Blk), getB (M ++ [c] ++ x ++ l) M.length = c := fun c l => by
      rw [List.append_assoc, List.append_assoc]
      exact getB_app0
    unfold rlR rlB at hqu ⊢
    (conv => whnf); repeat ((first | refine ⟨_, _, hqu, ?_⟩ | refine br_yes (decide_eq_true hq) ?_ | rw [hgl] | refine hset _ _ _ ?_ | rw [hgr] | refine br_nd (by omega) ?_ | rw [getB_app]); conv => whnf)
    exact ⟨rfl, _, by rw [List.append_assoc, List.append_assoc]⟩
theorem rLake_water (hq : 0 ≤ quI (tab Be.length (lakW n Be h)) 0) : COk Tryz.prog 3 41 [I n, .sl j 0 Be.length, F h] M (.tup [seaN, I 14]) M := by
  have u0 : Up M (M ++ ([sBx nilS' nilS' nilS' nilS' 0 0] : List Blk)) := Up.of hsc (by simp [scM, B.sc, scL, V.sc])
  obtain ⟨b, M1, hnew, N, u1⟩ := rnew_up (hm.up u0) u0.sc n hn hn'
  obtain ⟨x, hM1⟩ := u1.ex
  exact rLake_bad hm hsc hj hw hs hn hn' hB hb hh hM1 hnew N u1 hq
theorem rLake_up (hq : quI (tab Be.length (lakW n Be h)) 0 = -1) : ∃ M' k0 k1 k2 k3, COk Tryz.prog 3 41 [I n, .sl j 0 Be.length, F h] M (.tup [seaV k0 k1 k2 k3 Be.length Be.length Be.length (2 * Be.length) 0 0, I 0]) M' ∧ Up M M' ∧
    SeaB M' true k0 k1 k2 k3 Be (tab Be.length (lakW n Be h)) (List.replicate Be.length 0) (List.replicate (2 * Be.length) 0) := by
  have u0 : Up M (M ++ ([sBx nilS' nilS' nilS' nilS' 0 0] : List Blk)) := Up.of hsc (by simp [scM, B.sc, scL, V.sc])
  obtain ⟨b, M1, hnew, N, u1⟩ := rnew_up (hm.up u0) u0.sc n hn hn'
  obtain ⟨x, hM1⟩ := u1.ex
  have hr := rLake_raw hm hsc hj hw hs hn hn' hB hb hh hM1 hnew N u1 hq
  have hl1 : M1.length = M.length + 1 + x.length := by rw [hM1]; simp; omega
  have hx : scM M1.length x = true := by
    have := u1.sc
    rw [hM1] at this ⊢
    exact (scM_of_app this).2
  have hsq : n * n ≤ 1024 := Nat.mul_le_mul hn' hn'
  refine ⟨_, M1.length, M1.length + 1, M1.length + 2, M1.length + 3, hr, Up.mk ⟨_, by rw [List.append_assoc, List.append_assoc]⟩ ?_, ?_⟩
  · refine scM_app (scM_app (scM_app (scM_mono (by simp) _ hsc) ?_) (scM_mono (by rw [hl1]; simp [rlR]; omega) _ hx)) ?_
    · simp [scM, B.sc, scL, V.sc, rlR, rlB, hl1]; omega
    · simp [scM, B.sc, scL, V.sc, rlR, rlB, hl1]; omega
  · have eL : ∀ d : Blk, M1.length = (M ++ [d] ++ x).length := fun d => by rw [hl1]; simp; omega
    have get : ∀ (d : Blk) (l : List Blk) (k : Nat), getB (M ++ [d] ++ x ++ l) (M1.length + k) = getB l k := fun d l k => by
      rw [eL d]; exact getB_app k
    unfold rlR
    rw [Nat.mul_one, Nat.mul_one]
    refine ⟨get _ _ 0, get _ _ 1, get _ _ 2, get _ _ 3, hw, fun i hi => ?_, fun i hi => ?_, fun i hi => ?_, hs, by rw [tab_len]; exact hs, by simp; exact hs, by simp; omega⟩
    · rw [tab_len] at hi
      rw [tab_get hi]
      exact fillF_in _ _ _
    · rw [List.getD_eq_getElem?_getD, List.getElem?_replicate]
      split <;> (unfold in64; simp)
    · rw [List.getD_eq_getElem?_getD, List.getElem?_replicate]
      split <;> (unfold inF; simp)
end
end Go.Proofs.YtgoljofmbidkfaaGreatDoor
/- Package tarnlaw20: awake, wide. No condition. -/
namespace Go.Proofs.YtgoljofmbidkfaaGreatDoor
open Go Go.Eng
set_option maxRecDepth 100000
set_option linter.unusedSimpArgs false
set_option linter.unusedVariables false

abbrev one1 : Nat := 4607182418800017408
abbrev ar1 : Int := 1431655765
theorem area1' : ∀ c, c < 6 → areaC 1 c = ar1 := by decide +kernel
theorem plan_dt {x : Int} (hx : cellsI x = 6) (d g r lim : Nat) (hd : fgt (some d) (some 0) = false) (riv : Bool) (vR : V) (ho : vR.one = true) (M : List Blk) : COk Tryz.prog 3 23 [.agg [I x, F d, F g, F r, I lim, Bo riv, vR]] M (I 11) M := by
  have hc := fun m => cells_ok x m
  rw [hx] at hc
  have hone : allOne [I x, F d, F g, F r, I lim, Bo riv, vR] = true := by simp only [allOne, ho]; rfl
  refine COk_quiet Tryz.f23 Tryz.func23 (by kernel_rfl) rfl ?_
  (conv => whnf); repeat ((first | refine br_yes hone ?_ | refine ⟨_, _, hc _, ?_⟩ | refine br_yes (congrArg not hd) ?_ | refine setB_app ?_ | rw [getB_app] | rw [getB_app0] | refine addB_f1 ?_ | refine addB_f0 ?_); conv => whnf)
  exact ⟨rfl, _, rfl⟩
abbrev z6F : List Nat := List.replicate 6 0
abbrev z6I : List Int := List.replicate 6 0
abbrev z12 : List Nat := List.replicate 12 0
theorem nothing_ok {M : List Blk} (hsc : scM M.length M = true) : COk Tryz.prog 3 67 [] M (seaV (M.length + 1) (M.length + 2) (M.length + 3) (M.length + 4) 6 6 6 12 0 0) (M ++ [sBx (.sl (M.length + 1) 0 6) (.sl (M.length + 2) 0 6) (.sl (M.length + 3) 0 6) (.sl (M.length + 4) 0 12) 0 0, ⟨true, .flts z6F⟩, ⟨true, .ints .i64 z6I⟩, ⟨true, .ints .i64 z6I⟩, ⟨true, .flts z12⟩]) := by
  refine COk_of_ev Tryz.f67 Tryz.func67 (by kernel_rfl) (by simp) (by simp [V.sc, scL]) (.inr (scM_app (scM_mono (by simp) _ hsc) (by simp [scM, B.sc, scL, V.sc]))) ?_
  (conv => whnf); repeat ((first | refine Or.inl ?_ | refine setB_app0 ?_ | rw [getB_app0] | refine addB_f4 ?_ | refine addB_f3 ?_ | refine addB_f2 ?_ | refine addB_f1 ?_ | refine addB_f0 ?_); conv => whnf)
  exact ⟨rfl, [], by rw [List.append_nil]; rfl⟩
/-- The bed that is too high. -/
abbrev bad4 : Nat := 4701340746312056832
theorem chk_bad : chkF 1 (z6F.set 4 bad4) z6I z6I z12 0 0 = (4, 13) := by decide +kernel
theorem lak_at : ∀ c, c < 6 → lakW 1 z6F one1 c = ar1 := by
  intro c hc
  unfold lakW
  rw [area1' c hc, show z6F.getD c 0 = 0 by rw [List.getD_eq_getElem?_getD, List.getElem?_replicate, if_pos hc]; rfl]
  decide +kernel
theorem lak_tab : tab z6F.length (lakW 1 z6F one1) = List.replicate 6 ar1 := by
  rw [show z6F.length = 6 from rfl, tab_rep]
  exact tab_congr lak_at
theorem lak_q : quI (tab z6F.length (lakW 1 z6F one1)) 0 = -1 := by rw [lak_tab]; decide +kernel
theorem lak_b : ¬ 0 ≤ flI z6F mxH := by decide +kernel
theorem lak_h : highB one1 = true := by decide +kernel
theorem edges12 : (edges 1).length = 12 := edges_len (n := 1) (by decide)
theorem lak_ok : SeaOk 1 z6F (List.replicate 6 ar1) z6I (z12.set 0 one1) 0 0 := by
  have h : (chkF 1 z6F (List.replicate 6 ar1) z6I (z12.set 0 one1) 0 0).2 = 0 := by decide +kernel
  obtain ⟨n, hn, O⟩ := chk_ok h
  obtain rfl : n = 1 := by omega
  exact O
theorem lak_diff : sameB (z6F, List.replicate 6 ar1, z6I, z12, 0, 0) (z6F, List.replicate 6 ar1, z6I, z12.set 0 one1, 0, 0) = false := by decide +kernel
abbrev tailT (L : Nat) : List Blk := [sBx (.sl (L + 2) 0 6) (.sl (L + 3) 0 6) (.sl (L + 4) 0 6) (.sl (L + 5) 0 12) 0 0, sBx (.sl (L + 2) 0 6) (.sl (L + 3) 0 6) (.sl (L + 4) 0 6) (.sl (L + 5) 0 12) 0 0,
  ⟨true, .flts z6F⟩, ⟨true, .ints .i64 (List.replicate 6 ar1)⟩, ⟨true, .ints .i64 z6I⟩, ⟨true, .flts (z12.set 0 one1)⟩, sBx (.sl (L + 2) 0 6) (.sl (L + 3) 0 6) (.sl (L + 4) 0 6) (.sl (L + 5) 0 12) 0 0]
set_option maxHeartbeats 0 in
theorem awake20_ok {M : List Blk} (hm : Top M) (hsc : scM M.length M = true) : COk Tryz.prog 3 22 [] M (Bo true) M := by
  have hng := hm.ng
  have h0 := nothing_ok hsc
  have u1 : Up M (M ++ ([sBx (.sl (M.length + 1) 0 6) (.sl (M.length + 2) 0 6) (.sl (M.length + 3) 0 6) (.sl (M.length + 4) 0 12) 0 0, ⟨true, .flts (z6F.set 4 bad4)⟩, ⟨true, .ints .i64 z6I⟩, ⟨true, .ints .i64 z6I⟩, ⟨true, .flts z12⟩, sBx (.sl (M.length + 1) 0 6) (.sl (M.length + 2) 0 6) (.sl (M.length + 3) 0 6) (.sl (M.length + 4) 0 12) 0 0] : List Blk)) :=
    Up.of hsc (by simp [scM, B.sc, scL, V.sc])
  have S1 : SeaR (M ++ ([sBx (.sl (M.length + 1) 0 6) (.sl (M.length + 2) 0 6) (.sl (M.length + 3) 0 6) (.sl (M.length + 4) 0 12) 0 0, ⟨true, .flts (z6F.set 4 bad4)⟩, ⟨true, .ints .i64 z6I⟩, ⟨true, .ints .i64 z6I⟩, ⟨true, .flts z12⟩, sBx (.sl (M.length + 1) 0 6) (.sl (M.length + 2) 0 6) (.sl (M.length + 3) 0 6) (.sl (M.length + 4) 0 12) 0 0] : List Blk)) (M.length + 1) (M.length + 2) (M.length + 3) (M.length + 4) (z6F.set 4 bad4) z6I z6I z12 :=
    ⟨SlF.whole (getB_app 1) (by decide) (by decide), SlI.whole (getB_app 2) (by decide) (by decide), SlI.whole (getB_app 3) (by decide) (by decide), SlF.whole (getB_app 4) (by decide) (by decide)⟩
  have hck := Check_ok u1.sc (by simp) S1 1 0 0
  rw [chk_bad] at hck
  have u2 : Up M (M ++ ([sBx (.sl (M.length + 1) 0 6) (.sl (M.length + 2) 0 6) (.sl (M.length + 3) 0 6) (.sl (M.length + 4) 0 12) 0 0, ⟨true, .flts (z6F.set 4 bad4)⟩, ⟨true, .ints .i64 z6I⟩, ⟨true, .ints .i64 z6I⟩, ⟨true, .flts z12⟩, sBx (.sl (M.length + 1) 0 6) (.sl (M.length + 2) 0 6) (.sl (M.length + 3) 0 6) (.sl (M.length + 4) 0 12) 0 0, ⟨true, .flts z6F⟩] : List Blk)) :=
    Up.of hsc (by simp [scM, B.sc, scL, V.sc])
  obtain ⟨M2, k0, k1, k2, k3, hlk, u3, S2⟩ := Lake_up (hm.up u2) u2.sc (j := M.length + 6) (w := true) (Be := z6F) (getB_app 6) (by decide) (by decide) (n := 1) (by decide) (by decide) (by decide) lak_b lak_h lak_q
  rw [lak_tab, edges12] at S2
  rw [edges12] at hlk
  have hm2 := (hm.up u2).up u3
  refine COk_quiet Tryz.f22 Tryz.func22 (by kernel_rfl) rfl ?_
  have hpl := fun m => plan_dt (x := 1) (by decide) 0 0 0 0 (by decide +kernel) false nilS' rfl m
  have u4 : Up M2 (M2 ++ ([sBx (.sl k0 0 6) (.sl k1 0 6) (.sl k2 0 6) (.sl k3 0 12) 0 0] : List Blk)) := Up.of u3.sc (by
    have a0 := S2.read.s0.lt
    have a1 := S2.read.s1.lt
    have a2 := S2.read.s2.lt
    have a3 := S2.read.s3.lt
    simp [scM, B.sc, scL, V.sc]; omega)
  have hcp := Copy_pl u4.sc (S2.up u4) (by decide) (by decide) (by decide) (by decide) 0 0
  have hw5 : (List.replicate 6 ar1).getD 5 0 = ar1 := rfl
  unfold copL at hcp
  have u5 : Up (M2 ++ ([sBx (.sl k0 0 6) (.sl k1 0 6) (.sl k2 0 6) (.sl k3 0 12) 0 0] : List Blk)) (M2 ++ ([sBx (.sl k0 0 6) (.sl k1 0 6) (.sl k2 0 6) (.sl k3 0 12) 0 0] : List Blk) ++ tailT (M2 ++ ([sBx (.sl k0 0 6) (.sl k1 0 6) (.sl k2 0 6) (.sl k3 0 12) 0 0] : List Blk)).length) :=
    Up.of u4.sc (by simp [scM, B.sc, scL, V.sc])
  have S5 : SeaB (M2 ++ ([sBx (.sl k0 0 6) (.sl k1 0 6) (.sl k2 0 6) (.sl k3 0 12) 0 0] : List Blk) ++ tailT (M2 ++ ([sBx (.sl k0 0 6) (.sl k1 0 6) (.sl k2 0 6) (.sl k3 0 12) 0 0] : List Blk)).length) true ((M2 ++ ([sBx (.sl k0 0 6) (.sl k1 0 6) (.sl k2 0 6) (.sl k3 0 12) 0 0] : List Blk)).length + 2) ((M2 ++ ([sBx (.sl k0 0 6) (.sl k1 0 6) (.sl k2 0 6) (.sl k3 0 12) 0 0] : List Blk)).length + 3) ((M2 ++ ([sBx (.sl k0 0 6) (.sl k1 0 6) (.sl k2 0 6) (.sl k3 0 12) 0 0] : List Blk)).length + 4) ((M2 ++ ([sBx (.sl k0 0 6) (.sl k1 0 6) (.sl k2 0 6) (.sl k3 0 12) 0 0] : List Blk)).length + 5)
      z6F (List.replicate 6 ar1) z6I (z12.set 0 one1) :=
    ⟨getB_app 2, getB_app 3, getB_app 4, getB_app 5, by decide, by decide, by decide, by decide, by decide, by decide, by decide, by decide⟩
  obtain ⟨M5, q0, q1, q2, q3, htu, u6, S6⟩ := Turned_up ((hm2.up u4).up u5) u5.sc S5 lak_ok (t := 4) (by decide)
  rw [trB_len, trB_len, trB_len, trP_len, edges12] at htu
  have b0 := S6.read.s0.lt
  have b1 := S6.read.s1.lt
  have b2 := S6.read.s2.lt
  have b3 := S6.read.s3.lt
  have u7 : Up M5 (M5 ++ ([sBx (.sl q0 0 6) (.sl q1 0 6) (.sl q2 0 6) (.sl q3 0 12) 0 0] : List Blk)) := Up.of u6.sc (by simp [scM, B.sc, scL, V.sc]; omega)
  have hm7 := (((hm2.up u4).up u5).up u6).up u7
  have hl := Same_ok u7.sc hm7.ng (S2.read.up (((u4.trans u5).trans u6).trans u7)) (S2.read.up (((u4.trans u5).trans u6).trans u7)) 0 0 0 0
  rw [sameB_self] at hl
  have hd := Same_ok u7.sc hm7.ng (S2.read.up (((u4.trans u5).trans u6).trans u7)) (S5.read.up (u6.trans u7)) 0 0 0 0
  rw [show sameB (z6F, List.replicate 6 ar1, List.replicate z6F.length 0, List.replicate 12 0, 0, 0) (z6F, List.replicate 6 ar1, z6I, z12.set 0 one1, 0, 0) = false from lak_diff] at hd
  have g4 : ∀ l : List Blk, ∃ y, M5 ++ l = M2 ++ ([sBx (.sl k0 0 6) (.sl k1 0 6) (.sl k2 0 6) (.sl k3 0 12) 0 0] ++ y) := fun l => by
    obtain ⟨y, hy⟩ := (u5.trans u6).ex
    exact ⟨y ++ l, by rw [hy]; simp⟩
  have gl : ∀ l : List Blk, getB (M5 ++ l) M2.length = sBx (.sl k0 0 6) (.sl k1 0 6) (.sl k2 0 6) (.sl k3 0 12) 0 0 := fun l => by
    obtain ⟨y, hy⟩ := g4 l
    rw [hy]; exact getB_app0
  have gt : ∀ l : List Blk, getB (M5 ++ l) ((M2 ++ ([sBx (.sl k0 0 6) (.sl k1 0 6) (.sl k2 0 6) (.sl k3 0 12) 0 0] : List Blk)).length + 6) = sBx (.sl ((M2 ++ ([sBx (.sl k0 0 6) (.sl k1 0 6) (.sl k2 0 6) (.sl k3 0 12) 0 0] : List Blk)).length + 2) 0 6) (.sl ((M2 ++ ([sBx (.sl k0 0 6) (.sl k1 0 6) (.sl k2 0 6) (.sl k3 0 12) 0 0] : List Blk)).length + 3) 0 6) (.sl ((M2 ++ ([sBx (.sl k0 0 6) (.sl k1 0 6) (.sl k2 0 6) (.sl k3 0 12) 0 0] : List Blk)).length + 4) 0 6) (.sl ((M2 ++ ([sBx (.sl k0 0 6) (.sl k1 0 6) (.sl k2 0 6) (.sl k3 0 12) 0 0] : List Blk)).length + 5) 0 12) 0 0 := fun l => by
    obtain ⟨y, hy⟩ := u6.ex
    rw [hy, List.append_assoc]
    exact getB_in (getB_app 6) rfl
  (conv => whnf); repeat ((first | refine ⟨_, _, h0, ?_⟩ | refine ⟨_, _, hck, ?_⟩ | refine ⟨_, _, hlk, ?_⟩ | refine ⟨_, _, hpl _, ?_⟩ | refine ⟨_, _, hcp, ?_⟩ | refine ⟨_, _, htu, ?_⟩ | refine ⟨_, _, hl, ?_⟩ | refine ⟨_, _, hd, ?_⟩ | refine SlI.at (S2.read.s1.app _) (i := 5) (by decide) rfl ?_ | rw [hw5] | rw [gl] | rw [gt] | refine Or.inl ?_ | refine setB_app ?_ | refine setB_app0 ?_ | rw [getB_app] | rw [getB_app0] | refine addB_f6 ?_ | refine addB_f5 ?_ | refine addB_f0 ?_); conv => whnf)
  exact ⟨rfl, (((((u2.trans u3).trans u4).trans u5).trans u6)).app _⟩
/-- More numbers than are looked at? -/
def wideB (a b c d : Nat) : Bool := decide ((a + b + c + d : Nat) > 131072)
end Go.Proofs.YtgoljofmbidkfaaGreatDoor
/- The reference's turns. No condition. -/
namespace Go.Proofs.YtgoljofmbidkfaaGreatDoor
open Go Go.Eng
set_option maxRecDepth 100000
set_option linter.unusedSimpArgs false
set_option linter.unusedVariables false

def xT (t : Nat) : P3 := (tx t 0, tx t 1, tx t 2)
def yT (t : Nat) : P3 := (tx t 3, tx t 4, tx t 5)
def zT (t : Nat) : P3 := (tx t 6, tx t 7, tx t 8)
def trn (t : Nat) (p : P3) : P3 := plP (plP (plP (0, 0, 0) p.1 (xT t)) p.2.1 (yT t)) p.2.2 (zT t)
/-- Which faces the turns' first two axes are. -/
def imF (t : Nat) : Nat := t / 4
def imG (t : Nat) : Nat := fa t 1
/-- How many faces ahead of a face are crosswise to an axis. -/
def imC (X : P3) : Nat → Nat
  | 0 => 0
  | f + 1 => imC X f + (if dtP X (fC f) = 0 then 1 else 0)
end Go.Proofs.YtgoljofmbidkfaaGreatDoor
/- A sea that is turned, by the reference. No condition. -/
namespace Go.Proofs.YtgoljofmbidkfaaGreatDoor
open Go Go.Eng
set_option maxRecDepth 100000
set_option linter.unusedSimpArgs false
set_option linter.unusedVariables false

/-- What lies behind the net. -/
def ruR (M1 : List Blk) (N A B E : Nat) (Be : List Nat) (Wt Tr : List Int) (Sp : List Nat) (sky step : Int) : List Blk :=
  [⟨true, .flts Be⟩, ⟨true, .ints .i64 Wt⟩, ⟨true, .ints .i64 Tr⟩, ⟨true, .flts Sp⟩, sBx (.sl M1.length 0 N) (.sl (M1.length + 1) 0 A) (.sl (M1.length + 2) 0 B) (.sl (M1.length + 3) 0 E) sky step]
section
variable {M : List Blk} (hm : Top M) (hsc : scM M.length M = true) {j0 j1 j2 j3 : Nat} {w : Bool} {Be : List Nat} {Wt Tr : List Int} {Sp : List Nat} (S : SeaB M w j0 j1 j2 j3 Be Wt Tr Sp)
include hm hsc S
end
end Go.Proofs.YtgoljofmbidkfaaGreatDoor
/- StateTurned and StateGroup: their contracts. No condition. -/
namespace Go.Proofs.YtgoljofmbidkfaaGreatDoor
open Go Go.Eng
set_option maxRecDepth 100000
set_option linter.unusedSimpArgs false
set_option linter.unusedVariables false

abbrev sV (j0 j1 j2 j3 : Nat) (a : List Nat) (b c : List Int) (d : List Nat) (sky step : Int) : Blk := sBx (.sl j0 0 a.length) (.sl j1 0 b.length) (.sl j2 0 c.length) (.sl j3 0 d.length) sky step
theorem rall_nil (M : List Blk) : COk Tryz.prog 3 61 [nilS', nilS'] M (Bo true) M := by
  refine COk_quiet Tryz.f61 Tryz.func61 (by kernel_rfl) rfl ?_
  (conv => whnf); repeat ((first | refine br_d (by omega) ?_ | refine br_nd (by omega) ?_ | refine br_eq (by omega) ?_ | refine br_neq (by omega) ?_ | refine br_ne (by omega) ?_ | refine br_no (bo_eqn (by omega)) ?_ | refine Or.inl ?_ | refine okS_no (by kernel_rfl) ?_ | refine okS_yes (by kernel_rfl) ?_ | refine And_of (by (conv => whnf); (rw [getB_app0]); (conv => whnf)) ?_ | refine setB_app ?_ | refine setB_app0 ?_ | rw [getB_app] | rw [getB_app0] | refine addB_f13 ?_ | refine addB_f12 ?_ | refine addB_f11 ?_ | refine addB_f10 ?_ | refine addB_f9 ?_ | refine addB_f8 ?_ | refine addB_f7 ?_ | refine addB_f6 ?_ | refine addB_f5 ?_ | refine addB_f4 ?_ | refine addB_f3 ?_ | refine addB_f2 ?_ | refine addB_f1 ?_ | refine addB_f0 ?_); conv => whnf)
  refine lr ?_
  (conv => whnf); repeat ((first | refine br_d (by omega) ?_ | refine br_nd (by omega) ?_ | refine br_eq (by omega) ?_ | refine br_neq (by omega) ?_ | refine br_ne (by omega) ?_ | refine br_no (bo_eqn (by omega)) ?_ | refine Or.inl ?_ | refine okS_no (by kernel_rfl) ?_ | refine okS_yes (by kernel_rfl) ?_ | refine And_of (by (conv => whnf); (rw [getB_app0]); (conv => whnf)) ?_ | refine setB_app ?_ | refine setB_app0 ?_ | rw [getB_app] | rw [getB_app0] | refine addB_f13 ?_ | refine addB_f12 ?_ | refine addB_f11 ?_ | refine addB_f10 ?_ | refine addB_f9 ?_ | refine addB_f8 ?_ | refine addB_f7 ?_ | refine addB_f6 ?_ | refine addB_f5 ?_ | refine addB_f4 ?_ | refine addB_f3 ?_ | refine addB_f2 ?_ | refine addB_f1 ?_ | refine addB_f0 ?_); conv => whnf)
  exact ⟨rfl, [], by simp⟩
theorem rwhole_nil (M : List Blk) : COk Tryz.prog 3 84 [nilS', nilS'] M (Bo true) M := by
  refine COk_quiet Tryz.f84 Tryz.func84 (by kernel_rfl) rfl ?_
  (conv => whnf); repeat ((first | refine br_d (by omega) ?_ | refine br_nd (by omega) ?_ | refine br_eq (by omega) ?_ | refine br_neq (by omega) ?_ | refine br_ne (by omega) ?_ | refine br_no (bo_eqn (by omega)) ?_ | refine Or.inl ?_ | refine okS_no (by kernel_rfl) ?_ | refine okS_yes (by kernel_rfl) ?_ | refine And_of (by (conv => whnf); (rw [getB_app0]); (conv => whnf)) ?_ | refine setB_app ?_ | refine setB_app0 ?_ | rw [getB_app] | rw [getB_app0] | refine addB_f13 ?_ | refine addB_f12 ?_ | refine addB_f11 ?_ | refine addB_f10 ?_ | refine addB_f9 ?_ | refine addB_f8 ?_ | refine addB_f7 ?_ | refine addB_f6 ?_ | refine addB_f5 ?_ | refine addB_f4 ?_ | refine addB_f3 ?_ | refine addB_f2 ?_ | refine addB_f1 ?_ | refine addB_f0 ?_); conv => whnf)
  refine lr ?_
  (conv => whnf); repeat ((first | refine br_d (by omega) ?_ | refine br_nd (by omega) ?_ | refine br_eq (by omega) ?_ | refine br_neq (by omega) ?_ | refine br_ne (by omega) ?_ | refine br_no (bo_eqn (by omega)) ?_ | refine Or.inl ?_ | refine okS_no (by kernel_rfl) ?_ | refine okS_yes (by kernel_rfl) ?_ | refine And_of (by (conv => whnf); (rw [getB_app0]); (conv => whnf)) ?_ | refine setB_app ?_ | refine setB_app0 ?_ | rw [getB_app] | rw [getB_app0] | refine addB_f13 ?_ | refine addB_f12 ?_ | refine addB_f11 ?_ | refine addB_f10 ?_ | refine addB_f9 ?_ | refine addB_f8 ?_ | refine addB_f7 ?_ | refine addB_f6 ?_ | refine addB_f5 ?_ | refine addB_f4 ?_ | refine addB_f3 ?_ | refine addB_f2 ?_ | refine addB_f1 ?_ | refine addB_f0 ?_); conv => whnf)
  exact ⟨rfl, [], by simp⟩
theorem rSame_nil (M : List Blk) : COk Tryz.prog 3 29 [seaN, seaN] M (Bo true) M := by
  refine COk_quiet Tryz.f29 Tryz.func29 (by kernel_rfl) rfl ?_
  (conv => whnf); repeat ((first | refine ⟨_, _, rall_nil _, ?_⟩ | refine ⟨_, rall_nil _, ?_⟩ | refine ⟨_, _, rwhole_nil _, ?_⟩ | refine ⟨_, rwhole_nil _, ?_⟩ | refine br_d (by omega) ?_ | refine br_nd (by omega) ?_ | refine br_eq (by omega) ?_ | refine br_neq (by omega) ?_ | refine br_ne (by omega) ?_ | refine br_no (bo_eqn (by omega)) ?_ | refine Or.inl ?_ | refine okS_no (by kernel_rfl) ?_ | refine okS_yes (by kernel_rfl) ?_ | refine And_of (by (conv => whnf); (rw [getB_app0]); (conv => whnf)) ?_ | refine setB_app ?_ | refine setB_app0 ?_ | rw [getB_app] | rw [getB_app0] | refine addB_f13 ?_ | refine addB_f12 ?_ | refine addB_f11 ?_ | refine addB_f10 ?_ | refine addB_f9 ?_ | refine addB_f8 ?_ | refine addB_f7 ?_ | refine addB_f6 ?_ | refine addB_f5 ?_ | refine addB_f4 ?_ | refine addB_f3 ?_ | refine addB_f2 ?_ | refine addB_f1 ?_ | refine addB_f0 ?_); conv => whnf)
  exact ⟨rfl, _, rfl⟩
theorem sBx_up {M : List Blk} {j0 j1 j2 j3 : Nat} {w : Bool} {Be : List Nat} {Wt Tr : List Int} {Sp : List Nat} (hsc : scM M.length M = true) (S : SeaB M w j0 j1 j2 j3 Be Wt Tr Sp) (sky step : Int) : Up M (M ++ [sV j0 j1 j2 j3 Be Wt Tr Sp sky step]) := by
  have l0 := S.read.s0.lt
  have l1 := S.read.s1.lt
  have l2 := S.read.s2.lt
  have l3 := S.read.s3.lt
  exact Up.of hsc (by simp [scM, B.sc, scL, V.sc]; omega)
/-- A box at the end of a memory is there in all that is more. -/
theorem box_in {M M' : List Blk} {b : Blk} (hb : b.b.live = true) (u : Up (M ++ [b]) M') (l : List Blk) : getB (M' ++ l) M.length = b := by
  obtain ⟨x, rfl⟩ := u.ex
  rw [List.append_assoc]
  exact getB_in getB_app0 hb
theorem box_in0 {M M' : List Blk} {b : Blk} (hb : b.b.live = true) (u : Up (M ++ [b]) M') : getB M' M.length = b := by
  have := box_in hb u []
  rwa [List.append_nil] at this
section
variable {M : List Blk} (hm : Top M) (hsc : scM M.length M = true) {w : Bool} {j0 j1 j2 j3 : Nat} {Be : List Nat} {Wt Tr : List Int} {Sp : List Nat} (S : SeaB M w j0 j1 j2 j3 Be Wt Tr Sp) (x sky step : Int)
include hm hsc S
end
end Go.Proofs.YtgoljofmbidkfaaGreatDoor
