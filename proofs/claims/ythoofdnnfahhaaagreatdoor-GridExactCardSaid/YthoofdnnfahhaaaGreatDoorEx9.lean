/- Every net beside the document's, every question to it; of none too. No condition. -/
import Derived.Test.YthoofdnnfahhaaaGreatDoorRq
import Derived.Test.YthoofdnnfahhaaaGreatDoorJ9
namespace Go.Proofs.YthoofdnnfahhaaaGreatDoor
open Go Go.Eng
set_option maxRecDepth 100000
set_option linter.unusedSimpArgs false
set_option linter.unusedVariables false

theorem same_r (a : Nat) (m : List Blk) : COk Tryz.prog 3 20 [F a, F a] m (Bo true) m := by
  have := same_ok a a m
  rwa [decide_eq_true rfl] at this
theorem edge_eq (a b c d : Int) : eqT Tryz.prog 6 119 (.agg [I a, I b, I c, I d]) (.agg [I a, I b, I c, I d]) = some true := by
  have h : eqT Tryz.prog 6 119 (.agg [I a, I b, I c, I d]) (.agg [I a, I b, I c, I d]) = some ((a == a) && ((b == b) && ((c == c) && ((d == d) && true)))) := by kernel_rfl
  rw [h]; simp
set_option maxHeartbeats 0 in
theorem asked_ptr {M : List Blk} (q r : Nat) (e c o a1 a2 a3 a4 i s j k ar : Int) (ok ok2 : Bool) (ln gp : Nat)
    (g1 : ∀ z, COk Tryz.prog 3 85 [.ptr q 0, I e] (M ++ z) (.tup [.agg [I a1, I a2, I a3, I a4], Bo ok]) (M ++ z))
    (r1 : ∀ z, COk Tryz.prog 3 92 [.ptr r 0, I e] (M ++ z) (.tup [.agg [I a1, I a2, I a3, I a4], Bo ok]) (M ++ z))
    (g2 : ∀ z, COk Tryz.prog 3 86 [.ptr q 0, I c, I o] (M ++ z) (.tup [I i, I s]) (M ++ z))
    (r2 : ∀ z, COk Tryz.prog 3 93 [.ptr r 0, I c, I o] (M ++ z) (.tup [I i, I s]) (M ++ z))
    (g3 : ∀ z, COk Tryz.prog 3 87 [.ptr q 0, I e] (M ++ z) (.tup [I j, I k, Bo ok2]) (M ++ z))
    (r3 : ∀ z, COk Tryz.prog 3 94 [.ptr r 0, I e] (M ++ z) (.tup [I j, I k, Bo ok2]) (M ++ z))
    (g4 : ∀ z, COk Tryz.prog 3 88 [.ptr q 0, I c] (M ++ z) (I ar) (M ++ z))
    (r4 : ∀ z, COk Tryz.prog 3 95 [.ptr r 0, I c] (M ++ z) (I ar) (M ++ z))
    (g5 : ∀ z, COk Tryz.prog 3 96 [.ptr q 0, I e] (M ++ z) (F ln) (M ++ z))
    (r5 : ∀ z, COk Tryz.prog 3 97 [.ptr r 0, I e] (M ++ z) (F ln) (M ++ z))
    (g6 : ∀ z, COk Tryz.prog 3 98 [.ptr q 0, I e] (M ++ z) (F gp) (M ++ z))
    (r6 : ∀ z, COk Tryz.prog 3 99 [.ptr r 0, I e] (M ++ z) (F gp) (M ++ z)) :
    COk Tryz.prog 3 34 [.ptr q 0, .ptr r 0, .agg [I e, I c, I o]] M (Bo true) M := by
  refine COk_quiet Tryz.f34 Tryz.func34 (by kernel_rfl) rfl ?_
  (conv => whnf); repeat ((first | refine ⟨_, _, g1 _, ?_⟩ | refine ⟨_, _, r1 _, ?_⟩ | refine setB_app ?_ | rw [getB_app] | rw [getB_app0] | refine addB_f2 ?_ | refine addB_f1 ?_ | refine addB_f0 ?_); conv => whnf)
  refine ⟨true, ⟨by kernel_rfl, edge_eq _ _ _ _⟩, ?_⟩
  cases ok <;> cases ok2
  all_goals
    (conv => whnf); repeat ((first | refine ⟨_, _, g2 _, ?_⟩ | refine ⟨_, _, r2 _, ?_⟩ | refine ⟨_, _, g3 _, ?_⟩ | refine ⟨_, _, r3 _, ?_⟩ | refine ⟨_, g4 _, ?_⟩ | refine ⟨_, r4 _, ?_⟩ | refine ⟨_, g5 _, ?_⟩ | refine ⟨_, r5 _, ?_⟩ | refine ⟨_, g6 _, ?_⟩ | refine ⟨_, r6 _, ?_⟩ | refine ⟨_, same_r _ _, ?_⟩ | refine br_no (bo_eqn rfl) ?_ | refine br_d (by omega) ?_ | rw [getB_app0]); conv => whnf)
    exact ⟨rfl, _, rfl⟩
set_option maxHeartbeats 0 in
theorem asked_nil {M : List Blk} (e c o a1 a2 a3 a4 i s j k ar : Int) (ok ok2 : Bool) (ln gp : Nat)
    (g1 : ∀ z, COk Tryz.prog 3 85 [nilP, I e] (M ++ z) (.tup [.agg [I a1, I a2, I a3, I a4], Bo ok]) (M ++ z))
    (r1 : ∀ z, COk Tryz.prog 3 92 [nilP, I e] (M ++ z) (.tup [.agg [I a1, I a2, I a3, I a4], Bo ok]) (M ++ z))
    (g2 : ∀ z, COk Tryz.prog 3 86 [nilP, I c, I o] (M ++ z) (.tup [I i, I s]) (M ++ z))
    (r2 : ∀ z, COk Tryz.prog 3 93 [nilP, I c, I o] (M ++ z) (.tup [I i, I s]) (M ++ z))
    (g3 : ∀ z, COk Tryz.prog 3 87 [nilP, I e] (M ++ z) (.tup [I j, I k, Bo ok2]) (M ++ z))
    (r3 : ∀ z, COk Tryz.prog 3 94 [nilP, I e] (M ++ z) (.tup [I j, I k, Bo ok2]) (M ++ z))
    (g4 : ∀ z, COk Tryz.prog 3 88 [nilP, I c] (M ++ z) (I ar) (M ++ z))
    (r4 : ∀ z, COk Tryz.prog 3 95 [nilP, I c] (M ++ z) (I ar) (M ++ z))
    (g5 : ∀ z, COk Tryz.prog 3 96 [nilP, I e] (M ++ z) (F ln) (M ++ z))
    (r5 : ∀ z, COk Tryz.prog 3 97 [nilP, I e] (M ++ z) (F ln) (M ++ z))
    (g6 : ∀ z, COk Tryz.prog 3 98 [nilP, I e] (M ++ z) (F gp) (M ++ z))
    (r6 : ∀ z, COk Tryz.prog 3 99 [nilP, I e] (M ++ z) (F gp) (M ++ z)) :
    COk Tryz.prog 3 34 [nilP, nilP, .agg [I e, I c, I o]] M (Bo true) M := by
  refine COk_quiet Tryz.f34 Tryz.func34 (by kernel_rfl) rfl ?_
  (conv => whnf); repeat ((first | refine ⟨_, _, g1 _, ?_⟩ | refine ⟨_, _, r1 _, ?_⟩ | refine setB_app ?_ | rw [getB_app] | rw [getB_app0] | refine addB_f2 ?_ | refine addB_f1 ?_ | refine addB_f0 ?_); conv => whnf)
  refine ⟨true, ⟨by kernel_rfl, edge_eq _ _ _ _⟩, ?_⟩
  cases ok <;> cases ok2
  all_goals
    (conv => whnf); repeat ((first | refine ⟨_, _, g2 _, ?_⟩ | refine ⟨_, _, r2 _, ?_⟩ | refine ⟨_, _, g3 _, ?_⟩ | refine ⟨_, _, r3 _, ?_⟩ | refine ⟨_, g4 _, ?_⟩ | refine ⟨_, r4 _, ?_⟩ | refine ⟨_, g5 _, ?_⟩ | refine ⟨_, r5 _, ?_⟩ | refine ⟨_, g6 _, ?_⟩ | refine ⟨_, r6 _, ?_⟩ | refine ⟨_, same_r _ _, ?_⟩ | refine br_no (bo_eqn rfl) ?_ | refine br_d (by omega) ?_ | rw [getB_app0]); conv => whnf)
    exact ⟨rfl, _, rfl⟩
theorem asked_net {M : List Blk} (hm : Top M) {b b' n : Nat} (N : Net M b n) (R : RNet M b' n) (hn : 1 ≤ n) (hn' : n ≤ 32) (e c o : Int) :
    COk Tryz.prog 3 34 [.ptr (b + 1) 0, .ptr (b' + 1) 0, .agg [I e, I c, I o]] M (Bo true) M := by
  have tz : ∀ z, Top (M ++ z) := fun z => hm.app z
  have hE : ∃ a1 a2 a3 a4 ok j k ok2 ln gp, (∀ z, COk Tryz.prog 3 85 [.ptr (b + 1) 0, I e] (M ++ z) (.tup [.agg [I a1, I a2, I a3, I a4], Bo ok]) (M ++ z)) ∧
      (∀ z, COk Tryz.prog 3 92 [.ptr (b' + 1) 0, I e] (M ++ z) (.tup [.agg [I a1, I a2, I a3, I a4], Bo ok]) (M ++ z)) ∧
      (∀ z, COk Tryz.prog 3 87 [.ptr (b + 1) 0, I e] (M ++ z) (.tup [I j, I k, Bo ok2]) (M ++ z)) ∧
      (∀ z, COk Tryz.prog 3 94 [.ptr (b' + 1) 0, I e] (M ++ z) (.tup [I j, I k, Bo ok2]) (M ++ z)) ∧
      (∀ z, COk Tryz.prog 3 96 [.ptr (b + 1) 0, I e] (M ++ z) (F ln) (M ++ z)) ∧
      (∀ z, COk Tryz.prog 3 97 [.ptr (b' + 1) 0, I e] (M ++ z) (F ln) (M ++ z)) ∧
      (∀ z, COk Tryz.prog 3 98 [.ptr (b + 1) 0, I e] (M ++ z) (F gp) (M ++ z)) ∧
      (∀ z, COk Tryz.prog 3 99 [.ptr (b' + 1) 0, I e] (M ++ z) (F gp) (M ++ z)) := by
    by_cases he : 0 ≤ e ∧ e < (edges n).length
    · obtain ⟨k, rfl⟩ : ∃ k : Nat, e = k := ⟨e.toNat, by omega⟩
      obtain ⟨x, hx⟩ : ∃ x, (edges n)[k]? = some x := ⟨_, List.getElem?_eq_getElem (by omega)⟩
      exact ⟨_, _, _, _, _, _, _, _, _, _, fun z => edge_ok (N.more z) k x hx, fun z => redge_ok (R.more z) k x hx, fun z => behind_ok (N.more z) k x hx, fun z => rbehind_ok (tz z) (R.more z) hn hn' k x hx,
        fun z => glength_ok (N.more z) k x hx, fun z => rlength_at (tz z) (R.more z) hn hn' k x hx, fun z => ggap_ok (N.more z) k x hx, fun z => rggap_at (tz z) (R.more z) hn hn' k x hx⟩
    · exact ⟨_, _, _, _, _, _, _, _, _, _, fun z => edge_no (N.more z) e he, fun z => redge_no (R.more z) e he, fun z => behind_no (N.more z) e he, fun z => rbehind_no (R.more z) e he,
        fun z => glength_no (N.more z) e he, fun z => rlength_no (R.more z) e he, fun z => ggap_e_no (N.more z) e he, fun z => rggap9_no (R.more z) e he⟩
  have hA : ∃ ar, (∀ z, COk Tryz.prog 3 88 [.ptr (b + 1) 0, I c] (M ++ z) (I ar) (M ++ z)) ∧ (∀ z, COk Tryz.prog 3 95 [.ptr (b' + 1) 0, I c] (M ++ z) (I ar) (M ++ z)) := by
    by_cases hc : 0 ≤ c ∧ c < ((6 * (n * n) : Nat) : Int)
    · obtain ⟨k, rfl⟩ : ∃ k : Nat, c = k := ⟨c.toNat, by omega⟩
      exact ⟨_, fun z => area_ok (N.more z) k (by omega), fun z => rgarea_ok (tz z) (R.more z) hn hn' (by omega)⟩
    · exact ⟨_, fun z => garea_no (N.more z) hc, fun z => rgarea_no (tz z) (R.more z) hn hn' hc⟩
  have hR : ∃ i s, (∀ z, COk Tryz.prog 3 86 [.ptr (b + 1) 0, I c, I o] (M ++ z) (.tup [I i, I s]) (M ++ z)) ∧ (∀ z, COk Tryz.prog 3 93 [.ptr (b' + 1) 0, I c, I o] (M ++ z) (.tup [I i, I s]) (M ++ z)) := by
    by_cases hc : (0 ≤ c ∧ c < ((6 * (n * n) : Nat) : Int)) ∧ 0 ≤ o ∧ o < 4
    · obtain ⟨k, rfl⟩ : ∃ k : Nat, c = k := ⟨c.toNat, by omega⟩
      obtain ⟨s, rfl⟩ : ∃ s : Nat, o = s := ⟨o.toNat, by omega⟩
      obtain ⟨i, x, h1, h2, _⟩ := num_at hn (c := k) (s := s) (by omega) (by omega)
      exact ⟨_, _, fun z => around_ok (N.more z) k s i x h1 h2, fun z => raround_ok (R.more z) hn hn' (by omega) (by omega) i x h1 h2⟩
    · exact ⟨_, _, fun z => around_no (N.more z) c o (num_out hn hc), fun z => raround_no (R.more z) hn hn' c o hc⟩
  obtain ⟨a1, a2, a3, a4, ok, j, k, ok2, ln, gp, g1, r1, g3, r3, g5, r5, g6, r6⟩ := hE
  obtain ⟨ar, g4, r4⟩ := hA
  obtain ⟨i, s, g2, r2⟩ := hR
  exact asked_ptr _ _ e c o a1 a2 a3 a4 i s j k ar ok ok2 ln gp g1 r1 g2 r2 g3 r3 g4 r4 g5 r5 g6 r6
theorem asked_none {M : List Blk} (hm : Top M) (e c o : Int) : COk Tryz.prog 3 34 [nilP, nilP, .agg [I e, I c, I o]] M (Bo true) M :=
  asked_nil e c o _ _ _ _ _ _ _ _ _ _ _ _ _ (fun z => nil_edge e _) (fun z => rnil_edge e _) (fun z => nil_around c o _) (fun z => rnil_around c o _) (fun z => nil_behind e _) (fun z => rnil_behind e _)
    (fun z => nil_area c _) (fun z => rnil_area (hm.app z) c) (fun z => nil_length e _) (fun z => rnil_length e _) (fun z => nil_gap e _) (fun z => rnil_gap e _)
set_option maxHeartbeats 0 in
theorem exact9_ok {M : List Blk} (hm : Top M) (hsc : scM M.length M = true) (side : Int) {j q : Nat} {w : Bool} {l : List Int} (hb : getB M j = ⟨w, .ints .i64 l⟩) (hw : ∀ i, i < l.length → in64 (l.getD i 0)) (hl : l.length = 3 * q) (hq : q ≤ 17592186044416) : COk Tryz.prog 3 4 [I side, .sl j 0 q] M (Bo true) M := by
  have hj : j < M.length := getB_lt hb rfl
  have S : SlI M j 0 l := SlI.ints hb (fun i hi => ⟨by omega, by rw [Nat.zero_add]⟩) hw (by omega)
  have c4 : Tryz.prog.cellsOf 48 = 3 := by kernel_rfl
  have aw := topM hm (fun x => awake09_ok x) []
  rw [List.append_nil] at aw
  by_cases hs : 1 ≤ side ∧ side ≤ 32
  · obtain ⟨n, rfl⟩ : ∃ n : Nat, side = n := ⟨side.toNat, by omega⟩
    obtain ⟨b, M1, hnew, N, u1⟩ := new_up hm hsc n (by omega) (by omega)
    have hm1 := hm.up u1
    obtain ⟨b', M2, hrnew, R, u2⟩ := rnew_up hm1 u1.sc n (by omega) (by omega)
    have hm2 := hm1.up u2
    have hs2 := u2.sc
    have N := N.up u2
    have S := (S.up u1).up u2
    have hlt := N.lt
    have hlt' := R.lt
    have hj := S.lt
    have hx2 : ∃ y, M2 = M ++ y := by
      obtain ⟨y, rfl⟩ := u1.ex
      obtain ⟨z, rfl⟩ := u2.ex
      exact ⟨y ++ z, by rw [List.append_assoc]⟩
    refine COk_quiet Tryz.f4 Tryz.func4 (by kernel_rfl) rfl ?_
    (conv => whnf); repeat ((first | refine ⟨_, _, aw, ?_⟩ | refine ⟨_, _, hnew, ?_⟩ | refine ⟨_, _, hrnew, ?_⟩ | refine ⟨_, _, side_ok N, ?_⟩ | refine ⟨_, _, rside_ok R, ?_⟩ | refine ⟨_, _, gcells_ok N, ?_⟩ | refine ⟨_, _, rgcells_ok R (by omega) (by omega), ?_⟩ | refine ⟨_, _, gedges_ok N, ?_⟩ | refine ⟨_, _, rgedges_ok R, ?_⟩ | refine br_no (bo_eqn rfl) ?_); conv => whnf)
    refine loop_to (fun k => [I n, .sl j 0 q, .any, .any, .any, .ptr (b + 1) 0, .any, .ptr (b' + 1) 0, .any, nilP, nilP, I k, .any, .any, .any, .any, .any, .any, .any, .any, .any, .any, .any, .any, .any, .any, .any, .any, .any, .any, .any, .any, .any, .any, .any, .any, .any, .any, .any, .any, .any, .any, .any, .any, .any, .any, .any, .any, .any, .any, .any, .any, .any, .any, .any, .any, .any, .any, .any, .any, .any, .any, .any, .any, .any, .any, .any, .any, .any, .any, .any, .any, .any, .any, .any, .any, .any, .any, .any, .any, .any, .any, .any, .any, .any, .any, .any, .any, .any, .any, .any, .any]) (fun _ => M2) 0 q (Nat.zero_le _) ?_ ?_ ?_
    · refine Fg.of [] ?_ (by rw [List.append_nil]) (by simp) (by (simp [scL, V.sc]) <;> omega) hs2
      conv => whnf
      exact ⟨rfl, rfl, rfl, rfl, rfl, rfl, rfl, rfl⟩
    · intro k _ hk
      have e0 : 0 + ((k : Nat) : Int).toNat * Tryz.prog.cellsOf 48 = 0 + 3 * k * 1 := by rw [c4, Int.toNat_natCast]; omega
      have e1 : 0 + ((k : Nat) : Int).toNat * Tryz.prog.cellsOf 48 + 1 = 0 + (3 * k + 1) * 1 := by rw [c4, Int.toNat_natCast]; omega
      have e2 : 0 + ((k : Nat) : Int).toNat * Tryz.prog.cellsOf 48 + 1 + 1 = 0 + (3 * k + 2) * 1 := by rw [c4, Int.toNat_natCast]; omega
      (conv => whnf); repeat ((first | refine SlI.at S (i := 3 * k) (by omega) e0 ?_ | refine SlI.at S (i := 3 * k + 1) (by omega) e1 ?_ | refine SlI.at S (i := 3 * k + 2) (by omega) e2 ?_ | refine ⟨_, _, asked_net hm2 N R (by omega) (by omega) _ _ _, ?_⟩ | refine ⟨_, _, asked_none hm2 _ _ _, ?_⟩ | refine br_d (by omega) ?_); conv => whnf)
      refine Fg.of [] ?_ (by rw [List.append_nil]) (by simp) (by (simp [scL, V.sc]) <;> omega) hs2
      conv => whnf
      exact ⟨rfl, rfl, rfl, rfl, rfl, rfl, wrapKL (by omega), rfl⟩
    · (conv => whnf); repeat ((first | refine ⟨_, _, nil_side _, ?_⟩ | refine ⟨_, _, nil_cells _, ?_⟩ | refine ⟨_, _, nil_edges _, ?_⟩ | refine br_nd (by omega) ?_); conv => whnf)
      exact ⟨rfl, hx2⟩
  · have hnew := new_no side hs M
    have hrnew := rnew_no side hs M
    have hm2 := hm
    have hs2 := hsc
    have hx2 : ∃ y, M = M ++ y := ⟨[], by simp⟩
    refine COk_quiet Tryz.f4 Tryz.func4 (by kernel_rfl) rfl ?_
    (conv => whnf); repeat ((first | refine ⟨_, _, aw, ?_⟩ | refine ⟨_, _, hnew, ?_⟩ | refine ⟨_, _, hrnew, ?_⟩ | refine ⟨_, _, nil_side _, ?_⟩ | refine ⟨_, _, rnil_side _, ?_⟩ | refine ⟨_, _, nil_cells _, ?_⟩ | refine ⟨_, _, rnil_cells _, ?_⟩ | refine ⟨_, _, nil_edges _, ?_⟩ | refine ⟨_, _, rnil_edges _, ?_⟩); conv => whnf)
    refine loop_to (fun k => [I side, .sl j 0 q, .any, .any, .any, nilP, .any, nilP, .any, nilP, nilP, I k, .any, .any, .any, .any, .any, .any, .any, .any, .any, .any, .any, .any, .any, .any, .any, .any, .any, .any, .any, .any, .any, .any, .any, .any, .any, .any, .any, .any, .any, .any, .any, .any, .any, .any, .any, .any, .any, .any, .any, .any, .any, .any, .any, .any, .any, .any, .any, .any, .any, .any, .any, .any, .any, .any, .any, .any, .any, .any, .any, .any, .any, .any, .any, .any, .any, .any, .any, .any, .any, .any, .any, .any, .any, .any, .any, .any, .any, .any, .any, .any]) (fun _ => M) 0 q (Nat.zero_le _) ?_ ?_ ?_
    · refine Fg.of [] ?_ (by rw [List.append_nil]) (by simp) (by (simp [scL, V.sc]) <;> omega) hs2
      conv => whnf
      exact ⟨rfl, rfl, rfl, rfl, rfl, rfl, rfl, rfl⟩
    · intro k _ hk
      have e0 : 0 + ((k : Nat) : Int).toNat * Tryz.prog.cellsOf 48 = 0 + 3 * k * 1 := by rw [c4, Int.toNat_natCast]; omega
      have e1 : 0 + ((k : Nat) : Int).toNat * Tryz.prog.cellsOf 48 + 1 = 0 + (3 * k + 1) * 1 := by rw [c4, Int.toNat_natCast]; omega
      have e2 : 0 + ((k : Nat) : Int).toNat * Tryz.prog.cellsOf 48 + 1 + 1 = 0 + (3 * k + 2) * 1 := by rw [c4, Int.toNat_natCast]; omega
      (conv => whnf); repeat ((first | refine SlI.at S (i := 3 * k) (by omega) e0 ?_ | refine SlI.at S (i := 3 * k + 1) (by omega) e1 ?_ | refine SlI.at S (i := 3 * k + 2) (by omega) e2 ?_ | refine ⟨_, _, asked_none hm2 _ _ _, ?_⟩ | refine br_d (by omega) ?_); conv => whnf)
      refine Fg.of [] ?_ (by rw [List.append_nil]) (by simp) (by (simp [scL, V.sc]) <;> omega) hs2
      conv => whnf
      exact ⟨rfl, rfl, rfl, rfl, rfl, rfl, wrapKL (by omega), rfl⟩
    · (conv => whnf); repeat ((first | refine ⟨_, _, nil_side _, ?_⟩ | refine ⟨_, _, nil_cells _, ?_⟩ | refine ⟨_, _, nil_edges _, ?_⟩ | refine br_nd (by omega) ?_); conv => whnf)
      exact ⟨rfl, hx2⟩
end Go.Proofs.YthoofdnnfahhaaaGreatDoor
