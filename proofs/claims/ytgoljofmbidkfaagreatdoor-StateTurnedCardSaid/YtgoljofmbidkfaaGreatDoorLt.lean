import Derived.Test.YtgoljofmbidkfaaGreatDoorTd2
import Derived.Test.YtgoljofmbidkfaaGreatDoorRq
/- A sea that is turned, by the reference. No condition. -/
namespace Go.Proofs.YtgoljofmbidkfaaGreatDoor
open Go Go.Eng
set_option maxRecDepth 100000
set_option linter.unusedSimpArgs false
set_option linter.unusedVariables false

/-- What lies behind the net. -/
def ruR (M1 : List Blk) (N A B E : Nat) (Be : List Nat) (Wt Tr : List Int) (Sp : List Nat) (sky step : Int) : List Blk :=
  [⟨true, .flts Be⟩, ⟨true, .ints .i64 Wt⟩, ⟨true, .ints .i64 Tr⟩, ⟨true, .flts Sp⟩, sBx (.sl M1.length 0 N) (.sl (M1.length + 1) 0 A) (.sl (M1.length + 2) 0 B) (.sl (M1.length + 3) 0 E) sky step]
theorem fneg_wd {b : Nat} (h : b < 18446744073709551616) : Wd (fneg (some b)) := by
  intro c hc
  obtain ⟨s, R, hR, rfl⟩ : ∃ s R, R < 9223372036854775808 ∧ b = wd s R := by
    rcases Nat.lt_or_ge b 9223372036854775808 with h1 | h1
    · exact ⟨false, b, h1, rfl⟩
    · exact ⟨true, b - 9223372036854775808, by omega, by rw [wd_true]; omega⟩
  have hc : some (Op.negFloat .f64 (wd s R)) = some c := hc
  rw [neg_wd s (by omega)] at hc
  cases hc
  cases s
  · show wd true R < _
    rw [wd_true]; omega
  · show wd false R < _
    rw [wd_false]; omega
/-- The edge over the turned side. -/
theorem raround_t {n t e : Nat} (hn : 1 ≤ n) (hn' : n ≤ 32) (ht : t < 24) {x : Ed} (hx : (edges n)[e]? = some x) : ∀ m b, RNet m b n → COk Tryz.prog 3 91 [.ptr (b + 1) 0, I (tC n t x.1), I (((x.2.1 + tQ n t x.1) % 4 : Nat) : Int)] m (.tup [I (tE n t e), I (if tR n t e = true then -1 else 1)]) m := by
  intro m b N
  obtain ⟨c1, s1, _⟩ := edge_of hn hx
  have hl := (tC_lt hn ht c1).1
  have hm : (x.2.1 + tQ n t x.1) % 4 < 4 := Nat.mod_lt _ (by decide)
  obtain ⟨h1, y, h2, h3⟩ := nu_at hn hl hm
  have e1 : tE n t e = nu n (tC n t x.1) ((x.2.1 + tQ n t x.1) % 4) := by unfold tE; rw [hx]
  have e2 : tR n t e = !fw n (tC n t x.1) ((x.2.1 + tQ n t x.1) % 4) := by unfold tR; rw [hx]
  have hne := (nbC_ne hn hl hm).1
  have h := raround_ok N hn hn' hl hm _ y h1 h2
  rw [e1, e2]
  rcases h3 with ⟨f, rfl⟩ | ⟨f, rfl⟩
  · rw [f]
    rw [if_pos rfl] at h
    exact h
  · rw [f]
    rw [if_neg (by simp only; omega)] at h
    exact h
section
variable {M : List Blk} (hm : Top M) (hsc : scM M.length M = true) {j0 j1 j2 j3 : Nat} {w : Bool} {Be : List Nat} {Wt Tr : List Int} {Sp : List Nat} (S : SeaB M w j0 j1 j2 j3 Be Wt Tr Sp)
include hm hsc S
set_option maxHeartbeats 0 in
theorem rTurned_err (x sky step turn : Int) (hc : (chkF x Be Wt Tr Sp sky step).2 ≠ 0) : COk Tryz.prog 3 33 [I x, seaV j0 j1 j2 j3 Be.length Wt.length Tr.length Sp.length sky step, I turn] M (.tup [seaN, I (chkF x Be Wt Tr Sp sky step).2]) M := by
  have l0 := S.read.s0.lt
  have l1 := S.read.s1.lt
  have l2 := S.read.s2.lt
  have l3 := S.read.s3.lt
  have hng := hm.ng
  have u0 : Up M (M ++ ([sBx (.sl j0 0 Be.length) (.sl j1 0 Wt.length) (.sl j2 0 Tr.length) (.sl j3 0 Sp.length) sky step, sBx nilS' nilS' nilS' nilS' 0 0] : List Blk)) := Up.of hsc (by simp [scM, B.sc, scL, V.sc]; omega)
  have hk := rCheck_ok u0.sc (by simp; omega) (S.read.up u0) x sky step
  refine COk_quiet Tryz.f33 Tryz.func33 (by kernel_rfl) rfl ?_
  (conv => whnf); repeat ((first | refine ⟨_, _, hk, ?_⟩ | refine br_yes (bne_iff_ne.2 hc) ?_ | refine setB_app ?_ | rw [getB_app] | rw [getB_app0] | refine addB_f1 ?_ | refine addB_f0 ?_); conv => whnf)
  exact ⟨rfl, _, rfl⟩
set_option maxHeartbeats 0 in
theorem rTurned_arg (x sky step turn : Int) (hc : (chkF x Be Wt Tr Sp sky step).2 = 0) (ht : ¬ (0 ≤ turn ∧ turn < 24)) : COk Tryz.prog 3 33 [I x, seaV j0 j1 j2 j3 Be.length Wt.length Tr.length Sp.length sky step, I turn] M (.tup [seaN, I 1]) M := by
  have l0 := S.read.s0.lt
  have l1 := S.read.s1.lt
  have l2 := S.read.s2.lt
  have l3 := S.read.s3.lt
  have hng := hm.ng
  have u0 : Up M (M ++ ([sBx (.sl j0 0 Be.length) (.sl j1 0 Wt.length) (.sl j2 0 Tr.length) (.sl j3 0 Sp.length) sky step, sBx nilS' nilS' nilS' nilS' 0 0] : List Blk)) := Up.of hsc (by simp [scM, B.sc, scL, V.sc]; omega)
  have hk := rCheck_ok u0.sc (by simp; omega) (S.read.up u0) x sky step
  rw [hc] at hk
  rcases (show turn < 0 ∨ turn > 23 by omega) with hx | hx
  all_goals
    refine COk_quiet Tryz.f33 Tryz.func33 (by kernel_rfl) rfl ?_
    (conv => whnf); repeat ((first | refine ⟨_, _, hk, ?_⟩ | refine br_d (by omega) ?_ | refine br_nd (by omega) ?_ | refine setB_app ?_ | rw [getB_app] | rw [getB_app0] | refine addB_f1 ?_ | refine addB_f0 ?_); conv => whnf)
    exact ⟨rfl, _, rfl⟩
set_option maxHeartbeats 0 in
theorem rTurned_raw {n t : Nat} {sky step : Int} (O : SeaOk n Be Wt Tr Sp sky step) (ht : t < 24) {b : Nat} {M1 x : List Blk} (hM1 : M1 = M ++ [sBx (.sl j0 0 Be.length) (.sl j1 0 Wt.length) (.sl j2 0 Tr.length) (.sl j3 0 Sp.length) sky step, sBx nilS' nilS' nilS' nilS' 0 0] ++ x)
    (hnew : COk Tryz.prog 3 16 [I n] (M ++ [sBx (.sl j0 0 Be.length) (.sl j1 0 Wt.length) (.sl j2 0 Tr.length) (.sl j3 0 Sp.length) sky step, sBx nilS' nilS' nilS' nilS' 0 0]) (.tup [.ptr (b + 1) 0, I 0]) M1) (N : RNet M1 b n) (u1 : Up (M ++ [sBx (.sl j0 0 Be.length) (.sl j1 0 Wt.length) (.sl j2 0 Tr.length) (.sl j3 0 Sp.length) sky step, sBx nilS' nilS' nilS' nilS' 0 0]) M1) :
    COk Tryz.prog 3 33 [I n, seaV j0 j1 j2 j3 Be.length Wt.length Tr.length Sp.length sky step, I t] M (.tup [seaV M1.length (M1.length + 1) (M1.length + 2) (M1.length + 3) Be.length Be.length Be.length Sp.length sky step, I 0])
      (M ++ [sBx (.sl j0 0 Be.length) (.sl j1 0 Wt.length) (.sl j2 0 Tr.length) (.sl j3 0 Sp.length) sky step, sBx (.sl M1.length 0 Be.length) (.sl (M1.length + 1) 0 Be.length) (.sl (M1.length + 2) 0 Be.length) (.sl (M1.length + 3) 0 Sp.length) sky step] ++ x ++ ruR M1 Be.length Be.length Be.length Sp.length (trB 0 n t Be) (trB 0 n t Wt) (trB 0 n t Tr) (trP n t Sp) sky step) := by
  have l0 := S.read.s0.lt
  have l1 := S.read.s1.lt
  have l2 := S.read.s2.lt
  have l3 := S.read.s3.lt
  have hng := hm.ng
  have hn := O.n1
  have hn' := O.n2
  have e0 := O.l0
  have e1 : Wt.length = Be.length := O.l1.trans O.l0.symm
  have e2 : Tr.length = Be.length := O.l2.trans O.l0.symm
  have e3 := O.l3
  have hlen := edges_len hn
  have hsq : n * n ≤ 1024 := Nat.mul_le_mul hn' hn'
  have hsq1 : 1 ≤ n * n := Nat.mul_le_mul hn hn
  have hnl := N.lt
  have u0 : Up M (M ++ ([sBx (.sl j0 0 Be.length) (.sl j1 0 Wt.length) (.sl j2 0 Tr.length) (.sl j3 0 Sp.length) sky step, sBx nilS' nilS' nilS' nilS' 0 0] : List Blk)) := Up.of hsc (by simp [scM, B.sc, scL, V.sc]; omega)
  have ux := u0.trans u1
  have hk := rCheck_ok u0.sc (by simp; omega) (S.read.up u0) n sky step
  rw [O.chk] at hk
  have S1 := S.up ux
  have hl1 : M1.length = M.length + 2 + x.length := by rw [hM1]; simp; omega
  have hgl : ∀ l : List Blk, getB (M1 ++ l) M.length = sBx (.sl j0 0 Be.length) (.sl j1 0 Wt.length) (.sl j2 0 Tr.length) (.sl j3 0 Sp.length) sky step := fun l => by
    rw [hM1, List.append_assoc, List.append_assoc]
    exact getB_app0
  have hgl0 := hgl []
  rw [List.append_nil] at hgl0
  have hx : scM M1.length x = true := by
    have := u1.sc
    rw [hM1] at this ⊢
    exact (scM_of_app this).2
  have hscL : scM (M ++ [sBx (.sl j0 0 Be.length) (.sl j1 0 Wt.length) (.sl j2 0 Tr.length) (.sl j3 0 Sp.length) sky step, sBx (.sl M1.length 0 Be.length) (.sl (M1.length + 1) 0 Be.length) (.sl (M1.length + 2) 0 Be.length) (.sl (M1.length + 3) 0 Sp.length) sky step] ++ x ++ ruR M1 Be.length Be.length Be.length Sp.length (trB 0 n t Be) (trB 0 n t Wt) (trB 0 n t Tr) (trP n t Sp) sky step).length (M ++ [sBx (.sl j0 0 Be.length) (.sl j1 0 Wt.length) (.sl j2 0 Tr.length) (.sl j3 0 Sp.length) sky step, sBx (.sl M1.length 0 Be.length) (.sl (M1.length + 1) 0 Be.length) (.sl (M1.length + 2) 0 Be.length) (.sl (M1.length + 3) 0 Sp.length) sky step] ++ x ++ ruR M1 Be.length Be.length Be.length Sp.length (trB 0 n t Be) (trB 0 n t Wt) (trB 0 n t Tr) (trP n t Sp) sky step) = true := by
    refine scM_app (scM_app (scM_app (scM_mono (by simp) _ hsc) ?_) (scM_mono (by rw [hl1]; simp [ruR]; omega) _ hx)) ?_
    · rw [hl1]; simp [scM, B.sc, scL, V.sc, ruR]; omega
    · rw [hl1]; simp [scM, B.sc, scL, V.sc, ruR]; omega
  refine COk_of_ev Tryz.f33 Tryz.func33 (by kernel_rfl) (by simp) (by simp [V.sc, scL, ruR, hM1]; omega) (.inr hscL) ?_
  (conv => whnf); repeat ((first | refine ⟨_, _, hk, ?_⟩ | refine ⟨_, _, hnew, ?_⟩ | rw [hgl0] | refine br_d ⟨by omega, by omega, by omega, (by show (8 : Int) * _ ≤ 2 ^ 48; omega)⟩ ?_ | refine And_of (by (conv => whnf); rw [hgl0]; (conv => whnf)) ?_ | refine br_nd (by omega) ?_ | refine Or.inl ?_ | refine okS_no (by kernel_rfl) ?_ | refine setB_app ?_ | rw [getB_app] | rw [getB_app0] | refine addB_f4 ?_ | refine addB_f3 ?_ | refine addB_f2 ?_ | refine addB_f1 ?_ | refine addB_f0 ?_); conv => whnf)
  have hm1 := hm.up ux
  have hS := S1.read
  have hscm : ∀ (BB : List Nat) (W T : List Int) (P : List Nat), scM (M1 ++ ruR M1 Be.length Be.length Be.length Sp.length BB W T P sky step).length (M1 ++ ruR M1 Be.length Be.length Be.length Sp.length BB W T P sky step) = true := by
    intro BB W T P
    exact scM_app (scM_mono (by simp) _ u1.sc) (by simp [ruR, scM, B.sc, scL, V.sc])
  have hbB := fun c (hc : c < 6 * (n * n)) => (tC_lt hn ht hc).1
  have z0 : List.replicate (Be.length * 1) (0 : Nat) = mvB 0 n t Be (fun _ => 0) 0 := by rw [Nat.mul_one, tab_rep, e0]; exact (mov_0 _ _ _ _).symm
  have z1 : List.replicate (Be.length * 1) (0 : Int) = mvB 0 n t Wt (fun _ => 0) 0 := by rw [Nat.mul_one, tab_rep, e0]; exact (mov_0 _ _ _ _).symm
  have z2 : List.replicate (Be.length * 1) (0 : Int) = mvB 0 n t Tr (fun _ => 0) 0 := by rw [Nat.mul_one, tab_rep, e0]; exact (mov_0 _ _ _ _).symm
  have z3 : List.replicate (Sp.length * 1) (0 : Nat) = mvP n t Sp (fun _ => 0) 0 := by rw [Nat.mul_one, tab_rep, e3]; exact (mov_0 _ _ _ _).symm
  refine loop_to (fun k => [I n, .any, I t, .any, .ptr M.length 0, .any, .ptr (M.length + 1) 0, .any, .any, .any, .ptr (b + 1) 0, .any, I Be.length, .ptr (M1.length + 4) 0, I k, .any, .any, .any, .any, .any, .any, .any, .any, .any, .any, .any, .any, .any, .any, .any, .any, .any, .any, .any, .any, .any, .any, .any, .any, .any, .any, .any, .any, .any, .any, .any, .any, .any, .any, .any, .any, .any, .any, .any, .any, .any, .any, .any, .any, .any, .any, .any, .any, .any, .any, .any, .any, .any, .any, .any, .any, .any, .any, .any, .any, .any, .any, .any, .any, .any, .any, .any, .any, .any, .any, .any, .any, .any, .any, .any, .any, .any, .any, .any, .any, .any, .any, .any, .any, .any, .any, .any, .any, .any, .any, .any, .any, .any, .any, .any, .any, .any, .any, .any, .any, .any, .any, .any, .any, .any, .any, .any, .any, .any, .any, .any, .any, .any, .any, .any, .any, .any, .any, .any, .any, .any, .any, .any, .any, .any, .any, .any, .any, .any, .any, .any, .any, .any, .any, .any, .any, .any, .any, .any, .any, .any, .any, .any]) (fun k => M1 ++ ruR M1 Be.length Be.length Be.length Sp.length (mvB 0 n t Be (fun _ => 0) k) (mvB 0 n t Wt (fun _ => 0) k) (mvB 0 n t Tr (fun _ => 0) k) (mvP n t Sp (fun _ => 0) 0) sky step) 0 Be.length (Nat.zero_le _) ?_ ?_ ?_
  · refine Fg.of [] ?_ (by rw [List.append_nil, ← z0, ← z1, ← z2, ← z3]; rfl) (by simp [ruR]) (by first | (simp [scL, V.sc, ruR]; done) | (simp [scL, V.sc, ruR]; omega)) (hscm _ _ _ _)
    conv => whnf
    exact ⟨rfl, rfl, rfl, rfl, rfl, rfl, rfl, rfl, rfl⟩
  · intro c _ hc
    have hc6 : c < 6 * (n * n) := by omega
    unfold ruR
    have hT := fun l => rturn_c (hm1.app l) hn hn' ht hc6
    have hb6 := hbB c hc6
    have eB := mvB_set hn ht (0 : Nat) Be (fun _ => 0) hc6
    have eW := mvB_set hn ht (0 : Int) Wt (fun _ => 0) hc6
    have eT := mvB_set hn ht (0 : Int) Tr (fun _ => 0) hc6
    (conv => whnf); repeat ((first | refine ⟨_, _, hT _, ?_⟩ | rw [hgl] | refine SlF.at (hS.s0.app _) (i := c) hc rfl ?_ | refine SlI.at (hS.s1.app _) (i := c) (by omega) rfl ?_ | refine SlI.at (hS.s2.app _) (i := c) (by omega) rfl ?_ | refine br_yes (mv_blt (hbB c hc6)) ?_ | refine put_at0 (blkF eB) ?_ | refine put_at (blkI eW) ?_ | refine put_at (blkI eT) ?_ | refine br_d (by omega) ?_ | rw [getB_app] | rw [getB_app0]); conv => whnf)
    refine Fg.of [] ?_ (by rw [List.append_nil]; rfl) (by simp [ruR]) (by first | (simp [scL, V.sc, ruR]; done) | (simp [scL, V.sc, ruR]; omega)) (hscm _ _ _ _)
    conv => whnf
    exact ⟨rfl, rfl, rfl, rfl, rfl, rfl, rfl, wrapKL (by omega), rfl⟩
  · have e9 : Be.length = 6 * (n * n) := O.l0
    have fB : mvB 0 n t Be (fun _ => 0) Be.length = trB 0 n t Be := by rw [e9]; exact mvB_end hn ht _ _ _
    have fW : mvB 0 n t Wt (fun _ => 0) Be.length = trB 0 n t Wt := by rw [e9]; exact mvB_end hn ht _ _ _
    have fT : mvB 0 n t Tr (fun _ => 0) Be.length = trB 0 n t Tr := by rw [e9]; exact mvB_end hn ht _ _ _
    rw [fB, fW, fT]
    have hscq := fun (k : Nat) => hscm (trB 0 n t Be) (trB 0 n t Wt) (trB 0 n t Tr) (mvP n t Sp (fun _ => 0) k)
    unfold ruR
    (conv => whnf); repeat (refine br_nd (by omega) ?_; conv => whnf)
    refine loop_to (fun k => [I n, .any, I t, .any, .ptr M.length 0, .any, .ptr (M.length + 1) 0, .any, .any, .any, .ptr (b + 1) 0, .any, .any, .ptr (M1.length + 4) 0, .any, .any, .any, I k, .any, .any, .any, .any, .any, .any, .any, .any, .any, .any, .any, .any, .any, .any, .any, .any, .any, .any, .any, .any, .any, .any, .any, .any, .any, .any, .any, .any, .any, .any, .any, .any, .any, .any, .any, .any, .any, .any, .any, .any, .any, .any, .any, .any, .any, .any, .any, .any, .any, .any, .any, .any, .any, .any, .any, .any, .any, .any, .any, .any, .any, .any, .any, .any, .any, .any, .any, .any, .any, .any, .any, .any, .any, .any, .any, .any, .any, .any, .any, .any, .any, .any, .any, .any, .any, .any, .any, .any, .any, .any, .any, .any, .any, .any, .any, .any, .any, .any, .any, .any, .any, .any, .any, .any, .any, .any, .any, .any, .any, .any, .any, .any, .any, .any, .any, .any, .any, .any, .any, .any, .any, .any, .any, .any, .any, .any, .any, .any, .any, .any, .any, .any, .any, .any, .any, .any, .any, .any, .any, .any]) (fun k => M1 ++ ruR M1 Be.length Be.length Be.length Sp.length (trB 0 n t Be) (trB 0 n t Wt) (trB 0 n t Tr) (mvP n t Sp (fun _ => 0) k) sky step) 0 Sp.length (Nat.zero_le _) ?_ ?_ ?_
    · refine Fg.of [] ?_ (by rw [List.append_nil]; rfl) (by simp [ruR]) (by first | (simp [scL, V.sc, ruR]; done) | (simp [scL, V.sc, ruR]; omega)) (hscq _)
      conv => whnf
      exact ⟨rfl, rfl, rfl, rfl, rfl, rfl, rfl, rfl⟩
    · intro k _ hk
      have hx := List.getElem?_eq_getElem (l := edges n) (show k < (edges n).length by omega)
      generalize (edges n)[k] = y at hx
      obtain ⟨c1, s1, _⟩ := edge_of hn hx
      have hE := fun z => redge_ok (N.more z) k y hx
      have hT := fun l => rturn_c (hm1.app l) hn hn' ht c1
      have hA := fun z => raround_t hn hn' ht hx _ _ (N.more z)
      have hq4 := (tC_lt hn ht c1).2
      have hsd := side_sum4 s1 hq4
      have eP := mvP_set hn ht Sp (fun _ => 0) (show k < (edges n).length by omega)
      have hbe : tE n t k < (edges n).length := tE_lt hn ht (by omega)
      unfold ruR
      have hblt : ∀ v : Nat, Nat.blt (0 + tE n t k * 1) ((mvP n t Sp (fun _ => 0) k).set (0 + tE n t k * 1) v).length = true := fun v => by rw [List.length_set, mv_len]; simp; omega
      cases hr : tR n t k with
      | true =>
        rw [hr] at hA eP
        have eP2 : ((mvP n t Sp (fun _ => 0) k).set (0 + tE n t k * 1) (Sp.getD k 0)).set (0 + tE n t k * 1) (trS true (Sp.getD k 0)) = mvP n t Sp (fun _ => 0) (k + 1) := by rw [List.set_set]; exact eP
        have hcn := fun m => rcanon_ok (o := fneg (some (Sp.getD k 0))) (fneg_wd (S.f3 k hk)) m
        (conv => whnf); repeat ((first | refine SlF.at (hS.s3.app _) (i := k) hk rfl ?_ | refine ⟨_, _, hE _, ?_⟩ | refine ⟨_, _, hT _, ?_⟩ | rw [hsd] | rw [hgl] | refine ⟨_, _, hA _, ?_⟩ | refine ⟨_, hcn _, ?_⟩ | refine br_yes (mv_blt hbe) ?_ | refine br_yes (hblt _) ?_ | refine put_at (blkF eP2) ?_ | refine setB_app ?_ | refine br_d (by omega) ?_ | rw [getB_app] | refine addB_f5 ?_); conv => whnf)
        refine Fg.of [_] ?_ (by rw [List.append_assoc]; rfl) (by simp [ruR]) (by first | (simp [scL, V.sc, ruR]; done) | (simp [scL, V.sc, ruR]; omega)) (hscq _)
        conv => whnf
        exact ⟨rfl, rfl, rfl, rfl, rfl, rfl, wrapKL (by omega), rfl⟩
      | false =>
        rw [hr] at hA eP
        (conv => whnf); repeat ((first | refine SlF.at (hS.s3.app _) (i := k) hk rfl ?_ | refine ⟨_, _, hE _, ?_⟩ | refine ⟨_, _, hT _, ?_⟩ | rw [hsd] | rw [hgl] | refine ⟨_, _, hA _, ?_⟩ | refine br_yes (mv_blt hbe) ?_ | refine put_at (blkF eP) ?_ | refine br_d (by omega) ?_ | refine setB_app ?_ | rw [getB_app] | refine addB_f5 ?_); conv => whnf)
        refine Fg.of [_] ?_ (by rw [List.append_assoc]; rfl) (by simp [ruR]) (by first | (simp [scL, V.sc, ruR]; done) | (simp [scL, V.sc, ruR]; omega)) (hscq _)
        conv => whnf
        exact ⟨rfl, rfl, rfl, rfl, rfl, rfl, wrapKL (by omega), rfl⟩
    · have fP : mvP n t Sp (fun _ => 0) Sp.length = trP n t Sp := by rw [e3]; exact mvP_end hn ht _ _
      rw [fP]
      unfold ruR
      have hset : ∀ (l : List Blk) (c : Blk) (K : List Blk → Prop), K (M ++ [sBx (.sl j0 0 Be.length) (.sl j1 0 Wt.length) (.sl j2 0 Tr.length) (.sl j3 0 Sp.length) sky step, c] ++ x ++ l) → setB (M1 ++ l) (M.length + 1) c K := fun l c K hk => by
        rw [hM1, List.append_assoc, List.append_assoc]
        refine setB_app ?_
        simpa using hk
      have hgl2 : ∀ l : List Blk, getB (M1 ++ l) (M.length + 1) = sBx nilS' nilS' nilS' nilS' 0 0 := fun l => by
        rw [hM1, List.append_assoc, List.append_assoc]
        exact getB_app 1
      have hgr : ∀ (d c : Blk) (l : List Blk), getB (M ++ [d, c] ++ x ++ l) (M.length + 1) = c := fun d c l => by
        rw [List.append_assoc, List.append_assoc]
        exact getB_app 1
      (conv => whnf); repeat ((first | rw [hgl] | rw [hgl2] | refine hset _ _ _ ?_ | rw [hgr] | refine br_nd (by omega) ?_ | rw [getB_app]); conv => whnf)
      refine ⟨rfl, [], ?_⟩
      rw [List.append_nil]
theorem rTurned_up {n t : Nat} {sky step : Int} (O : SeaOk n Be Wt Tr Sp sky step) (ht : t < 24) : ∃ M' k0 k1 k2 k3, COk Tryz.prog 3 33 [I n, seaV j0 j1 j2 j3 Be.length Wt.length Tr.length Sp.length sky step, I t] M
      (.tup [seaV k0 k1 k2 k3 (trB 0 n t Be).length (trB 0 n t Wt).length (trB 0 n t Tr).length (trP n t Sp).length sky step, I 0]) M' ∧ Up M M' ∧ SeaB M' true k0 k1 k2 k3 (trB 0 n t Be) (trB 0 n t Wt) (trB 0 n t Tr) (trP n t Sp) := by
  have l0 := S.read.s0.lt
  have l1 := S.read.s1.lt
  have l2 := S.read.s2.lt
  have l3 := S.read.s3.lt
  have hn := O.n1
  have i1 := (inv_ok t ht).1
  have hsq : n * n ≤ 1024 := Nat.mul_le_mul O.n2 O.n2
  have hlen := edges_len hn
  have u0 : Up M (M ++ ([sBx (.sl j0 0 Be.length) (.sl j1 0 Wt.length) (.sl j2 0 Tr.length) (.sl j3 0 Sp.length) sky step, sBx nilS' nilS' nilS' nilS' 0 0] : List Blk)) := Up.of hsc (by simp [scM, B.sc, scL, V.sc]; omega)
  obtain ⟨b, M1, hnew, N, u1⟩ := rnew_up (hm.up u0) u0.sc n O.n1 O.n2
  obtain ⟨x, hM1⟩ := u1.ex
  have hr := rTurned_raw hm hsc S O ht hM1 hnew N u1
  have hl1 : M1.length = M.length + 2 + x.length := by rw [hM1]; simp; omega
  have hx : scM M1.length x = true := by
    have := u1.sc
    rw [hM1] at this ⊢
    exact (scM_of_app this).2
  rw [show (trB 0 n t Be).length = Be.length from (trB_len _ _ _ _).trans O.l0.symm, show (trB 0 n t Wt).length = Be.length from (trB_len _ _ _ _).trans O.l0.symm, show (trB 0 n t Tr).length = Be.length from (trB_len _ _ _ _).trans O.l0.symm, show (trP n t Sp).length = Sp.length from (trP_len _ _ _).trans O.l3.symm]
  refine ⟨_, M1.length, M1.length + 1, M1.length + 2, M1.length + 3, hr, Up.mk ⟨_, by rw [List.append_assoc, List.append_assoc]⟩ ?_, ?_⟩
  · refine scM_app (scM_app (scM_app (scM_mono (by simp) _ hsc) ?_) (scM_mono (by rw [hl1]; simp [ruR]; omega) _ hx)) ?_
    · rw [hl1]; simp [scM, B.sc, scL, V.sc, ruR]; omega
    · rw [hl1]; simp [scM, B.sc, scL, V.sc, ruR]; omega
  · have eL : ∀ d c : Blk, M1.length = (M ++ [d, c] ++ x).length := fun d c => by rw [hl1]; simp; omega
    have get : ∀ (d c : Blk) (l : List Blk) (k : Nat), getB (M ++ [d, c] ++ x ++ l) (M1.length + k) = getB l k := fun d c l k => by
      rw [eL d c]; exact getB_app k
    have hm2 : mxS ≤ infR := by decide
    refine ⟨get _ _ _ 0, get _ _ _ 1, get _ _ _ 2, get _ _ _ 3, fun i hi => ?_, fun i hi => ?_, fun i hi => ?_, fun i hi => ?_, by rw [trB_len]; omega, by rw [trB_len]; omega, by rw [trB_len]; omega, by rw [trP_len]; omega⟩
    · rw [trB_len] at hi
      unfold trB
      rw [tab_get hi]
      exact S.f0 _ (by rw [O.l0]; exact (tC_lt hn i1 hi).1)
    · rw [trB_len] at hi
      unfold trB
      rw [tab_get hi]
      exact S.f1 _ (by rw [O.l1]; exact (tC_lt hn i1 hi).1)
    · rw [trB_len] at hi
      unfold trB
      rw [tab_get hi]
      exact S.f2 _ (by rw [O.l2]; exact (tC_lt hn i1 hi).1)
    · rw [trP_len] at hi
      unfold trP
      rw [tab_get hi]
      have hq : tE n (inv t) i < Sp.length := by rw [O.l3]; exact tE_lt hn i1 hi
      exact (trS_betw _ (S.f3 _ hq) hm2 (badF_no (O.spd _ hq))).2
end
end Go.Proofs.YtgoljofmbidkfaaGreatDoor
/- StateTurned and StateGroup: their contracts. No condition. -/
namespace Go.Proofs.YtgoljofmbidkfaaGreatDoor
open Go Go.Eng
set_option maxRecDepth 100000
set_option linter.unusedSimpArgs false
set_option linter.unusedVariables false

abbrev sV (j0 j1 j2 j3 : Nat) (a : List Nat) (b c : List Int) (d : List Nat) (sky step : Int) : Blk := sBx (.sl j0 0 a.length) (.sl j1 0 b.length) (.sl j2 0 c.length) (.sl j3 0 d.length) sky step
theorem rall_nil (M : List Blk) : COk Tryz.prog 3 61 [nilS', nilS'] M (Bo true) M := by
  refine COk_quiet Tryz.f61 Tryz.func61 (by kernel_rfl) rfl ?_
  (conv => whnf); repeat ((first | refine br_d (by omega) ?_ | refine br_nd (by omega) ?_ | refine br_eq (by omega) ?_ | refine br_neq (by omega) ?_ | refine br_ne (by omega) ?_ | refine br_no (bo_eqn (by omega)) ?_ | refine Or.inl ?_ | refine okS_no (by kernel_rfl) ?_ | refine okS_yes (by kernel_rfl) ?_ | refine And_of (by (conv => whnf); (rw [getB_app0]); (conv => whnf)) ?_ | refine setB_app ?_ | refine setB_app0 ?_ | rw [getB_app] | rw [getB_app0] | refine addB_f13 ?_ | refine addB_f12 ?_ | refine addB_f11 ?_ | refine addB_f10 ?_ | refine addB_f9 ?_ | refine addB_f8 ?_ | refine addB_f7 ?_ | refine addB_f6 ?_ | refine addB_f5 ?_ | refine addB_f4 ?_ | refine addB_f3 ?_ | refine addB_f2 ?_ | refine addB_f1 ?_ | refine addB_f0 ?_); conv => whnf)
  refine lr ?_
  (conv => whnf); repeat ((first | refine br_d (by omega) ?_ | refine br_nd (by omega) ?_ | refine br_eq (by omega) ?_ | refine br_neq (by omega) ?_ | refine br_ne (by omega) ?_ | refine br_no (bo_eqn (by omega)) ?_ | refine Or.inl ?_ | refine okS_no (by kernel_rfl) ?_ | refine okS_yes (by kernel_rfl) ?_ | refine And_of (by (conv => whnf); (rw [getB_app0]); (conv => whnf)) ?_ | refine setB_app ?_ | refine setB_app0 ?_ | rw [getB_app] | rw [getB_app0] | refine addB_f13 ?_ | refine addB_f12 ?_ | refine addB_f11 ?_ | refine addB_f10 ?_ | refine addB_f9 ?_ | refine addB_f8 ?_ | refine addB_f7 ?_ | refine addB_f6 ?_ | refine addB_f5 ?_ | refine addB_f4 ?_ | refine addB_f3 ?_ | refine addB_f2 ?_ | refine addB_f1 ?_ | refine addB_f0 ?_); conv => whnf)
  exact ⟨rfl, [], by simp⟩
theorem rwhole_nil (M : List Blk) : COk Tryz.prog 3 84 [nilS', nilS'] M (Bo true) M := by
  refine COk_quiet Tryz.f84 Tryz.func84 (by kernel_rfl) rfl ?_
  (conv => whnf); repeat ((first | refine br_d (by omega) ?_ | refine br_nd (by omega) ?_ | refine br_eq (by omega) ?_ | refine br_neq (by omega) ?_ | refine br_ne (by omega) ?_ | refine br_no (bo_eqn (by omega)) ?_ | refine Or.inl ?_ | refine okS_no (by kernel_rfl) ?_ | refine okS_yes (by kernel_rfl) ?_ | refine And_of (by (conv => whnf); (rw [getB_app0]); (conv => whnf)) ?_ | refine setB_app ?_ | refine setB_app0 ?_ | rw [getB_app] | rw [getB_app0] | refine addB_f13 ?_ | refine addB_f12 ?_ | refine addB_f11 ?_ | refine addB_f10 ?_ | refine addB_f9 ?_ | refine addB_f8 ?_ | refine addB_f7 ?_ | refine addB_f6 ?_ | refine addB_f5 ?_ | refine addB_f4 ?_ | refine addB_f3 ?_ | refine addB_f2 ?_ | refine addB_f1 ?_ | refine addB_f0 ?_); conv => whnf)
  refine lr ?_
  (conv => whnf); repeat ((first | refine br_d (by omega) ?_ | refine br_nd (by omega) ?_ | refine br_eq (by omega) ?_ | refine br_neq (by omega) ?_ | refine br_ne (by omega) ?_ | refine br_no (bo_eqn (by omega)) ?_ | refine Or.inl ?_ | refine okS_no (by kernel_rfl) ?_ | refine okS_yes (by kernel_rfl) ?_ | refine And_of (by (conv => whnf); (rw [getB_app0]); (conv => whnf)) ?_ | refine setB_app ?_ | refine setB_app0 ?_ | rw [getB_app] | rw [getB_app0] | refine addB_f13 ?_ | refine addB_f12 ?_ | refine addB_f11 ?_ | refine addB_f10 ?_ | refine addB_f9 ?_ | refine addB_f8 ?_ | refine addB_f7 ?_ | refine addB_f6 ?_ | refine addB_f5 ?_ | refine addB_f4 ?_ | refine addB_f3 ?_ | refine addB_f2 ?_ | refine addB_f1 ?_ | refine addB_f0 ?_); conv => whnf)
  exact ⟨rfl, [], by simp⟩
theorem rSame_nil (M : List Blk) : COk Tryz.prog 3 29 [seaN, seaN] M (Bo true) M := by
  refine COk_quiet Tryz.f29 Tryz.func29 (by kernel_rfl) rfl ?_
  (conv => whnf); repeat ((first | refine ⟨_, _, rall_nil _, ?_⟩ | refine ⟨_, rall_nil _, ?_⟩ | refine ⟨_, _, rwhole_nil _, ?_⟩ | refine ⟨_, rwhole_nil _, ?_⟩ | refine br_d (by omega) ?_ | refine br_nd (by omega) ?_ | refine br_eq (by omega) ?_ | refine br_neq (by omega) ?_ | refine br_ne (by omega) ?_ | refine br_no (bo_eqn (by omega)) ?_ | refine Or.inl ?_ | refine okS_no (by kernel_rfl) ?_ | refine okS_yes (by kernel_rfl) ?_ | refine And_of (by (conv => whnf); (rw [getB_app0]); (conv => whnf)) ?_ | refine setB_app ?_ | refine setB_app0 ?_ | rw [getB_app] | rw [getB_app0] | refine addB_f13 ?_ | refine addB_f12 ?_ | refine addB_f11 ?_ | refine addB_f10 ?_ | refine addB_f9 ?_ | refine addB_f8 ?_ | refine addB_f7 ?_ | refine addB_f6 ?_ | refine addB_f5 ?_ | refine addB_f4 ?_ | refine addB_f3 ?_ | refine addB_f2 ?_ | refine addB_f1 ?_ | refine addB_f0 ?_); conv => whnf)
  exact ⟨rfl, _, rfl⟩
theorem sBx_up {M : List Blk} {j0 j1 j2 j3 : Nat} {w : Bool} {Be : List Nat} {Wt Tr : List Int} {Sp : List Nat} (hsc : scM M.length M = true) (S : SeaB M w j0 j1 j2 j3 Be Wt Tr Sp) (sky step : Int) : Up M (M ++ [sV j0 j1 j2 j3 Be Wt Tr Sp sky step]) := by
  have l0 := S.read.s0.lt
  have l1 := S.read.s1.lt
  have l2 := S.read.s2.lt
  have l3 := S.read.s3.lt
  exact Up.of hsc (by simp [scM, B.sc, scL, V.sc]; omega)
/-- A box at the end of a memory is there in all that is more. -/
theorem box_in {M M' : List Blk} {b : Blk} (hb : b.b.live = true) (u : Up (M ++ [b]) M') (l : List Blk) : getB (M' ++ l) M.length = b := by
  obtain ⟨x, rfl⟩ := u.ex
  rw [List.append_assoc]
  exact getB_in getB_app0 hb
section
variable {M : List Blk} (hm : Top M) (hsc : scM M.length M = true) {w : Bool} {j0 j1 j2 j3 : Nat} {Be : List Nat} {Wt Tr : List Int} {Sp : List Nat} (S : SeaB M w j0 j1 j2 j3 Be Wt Tr Sp) (x sky step : Int)
include hm hsc S
set_option maxHeartbeats 0 in
theorem turned20_ok (turn : Int) : COk Tryz.prog 3 8 [I x, seaV j0 j1 j2 j3 Be.length Wt.length Tr.length Sp.length sky step, I turn] M (Bo true) M := by
  have u0 := sBx_up hsc S sky step
  have hm0 := hm.up u0
  have S0 := S.up u0
  have haw := awake20_ok hm0 u0.sc
  have hwd := wide_ok (M := M ++ [sV j0 j1 j2 j3 Be Wt Tr Sp sky step]) j0 j1 j2 j3 S.l0 S.l1 S.l2 S.l3 sky step
  cases hq : wideB Be.length Wt.length Tr.length Sp.length with
  | true =>
    rw [hq] at hwd
    refine COk_quiet Tryz.f8 Tryz.func8 (by kernel_rfl) rfl ?_
    (conv => whnf); repeat ((first | refine ⟨_, _, haw, ?_⟩ | refine ⟨_, haw, ?_⟩ | refine ⟨_, _, hwd, ?_⟩ | refine ⟨_, hwd, ?_⟩ | refine br_d (by omega) ?_ | refine br_nd (by omega) ?_ | refine br_eq (by omega) ?_ | refine br_neq (by omega) ?_ | refine br_ne (by omega) ?_ | refine br_no (bo_eqn (by omega)) ?_ | refine Or.inl ?_ | refine okS_no (by kernel_rfl) ?_ | refine okS_yes (by kernel_rfl) ?_ | refine And_of (by (conv => whnf); (rw [getB_app0]); (conv => whnf)) ?_ | refine setB_app ?_ | refine setB_app0 ?_ | rw [getB_app] | rw [getB_app0] | refine addB_f13 ?_ | refine addB_f12 ?_ | refine addB_f11 ?_ | refine addB_f10 ?_ | refine addB_f9 ?_ | refine addB_f8 ?_ | refine addB_f7 ?_ | refine addB_f6 ?_ | refine addB_f5 ?_ | refine addB_f4 ?_ | refine addB_f3 ?_ | refine addB_f2 ?_ | refine addB_f1 ?_ | refine addB_f0 ?_); conv => whnf)
    exact ⟨rfl, _, rfl⟩
  | false =>
    rw [hq] at hwd
    by_cases hc : (chkF x Be Wt Tr Sp sky step).2 = 0
    · by_cases ht : 0 ≤ turn ∧ turn < 24
      · obtain ⟨n, rfl, O⟩ := chk_ok hc
        obtain ⟨t, rfl⟩ : ∃ t : Nat, turn = t := ⟨turn.toNat, by omega⟩
        have ht24 : t < 24 := by omega
        obtain ⟨M1, a0, a1, a2, a3, hA, u1, S1⟩ := Turned_up hm0 u0.sc S0 O ht24
        have v1 := sBx_up u1.sc S1 sky step
        have w1 := u1.trans v1
        obtain ⟨M2, b0, b1, b2, b3, hB, u2, S2⟩ := rTurned_up (hm0.up w1) w1.sc (S0.up w1) O ht24
        have v2 := sBx_up u2.sc S2 sky step
        have w2 := (w1.trans u2).trans v2
        have O1 := O.turn ht24 (fun i hi => S.f3 i hi)
        have hS := rSame_ok w2.sc (hm0.up w2).ng ((S1.up v1).up (u2.trans v2)).read (S2.up v2).read sky step sky step
        rw [sameB_self] at hS
        have hC := Check_ok w2.sc (hm0.up w2).ng ((S1.up v1).up (u2.trans v2)).read n sky step
        rw [O1.chk] at hC
        obtain ⟨M3, c0, c1, c2, c3, hD, u3, S3⟩ := Turned_up (hm0.up w2) w2.sc (S0.up w2) O (t := 0) (by decide)
        have v3 := sBx_up u3.sc S3 sky step
        have w3 := (w2.trans u3).trans v3
        have hT := rSame_ok w3.sc (hm0.up w3).ng (S3.up v3).read (S0.up w3).read sky step sky step
        rw [trB_0 O.n1 O.l0, trB_0 O.n1 O.l1, trB_0 O.n1 O.l2, trP_0 O.n1 O.l3, sameB_self] at hT
        rw [trB_0 O.n1 O.l0, trB_0 O.n1 O.l1, trB_0 O.n1 O.l2, trP_0 O.n1 O.l3] at hD v3 w3
        have gs1 := box_in rfl u1
        have gs2 := box_in rfl (w1.trans u2)
        have gs3 := box_in rfl (w2.trans u3)
        have ga2 := box_in rfl u2
        have ga3 := box_in rfl ((u2.trans v2).trans u3)
        refine COk_quiet Tryz.f8 Tryz.func8 (by kernel_rfl) rfl ?_
        (conv => whnf); repeat ((first | refine ⟨_, _, haw, ?_⟩ | refine ⟨_, haw, ?_⟩ | refine ⟨_, _, hwd, ?_⟩ | refine ⟨_, hwd, ?_⟩ | refine ⟨_, _, hA, ?_⟩ | refine ⟨_, hA, ?_⟩ | refine ⟨_, _, hB, ?_⟩ | refine ⟨_, hB, ?_⟩ | refine ⟨_, _, hS, ?_⟩ | refine ⟨_, hS, ?_⟩ | refine ⟨_, _, hC, ?_⟩ | refine ⟨_, hC, ?_⟩ | refine ⟨_, _, hD, ?_⟩ | refine ⟨_, hD, ?_⟩ | refine ⟨_, _, hT, ?_⟩ | refine ⟨_, hT, ?_⟩ | rw [gs1] | rw [gs2] | rw [gs3] | rw [ga2] | rw [ga3] | refine br_d (by omega) ?_ | refine br_nd (by omega) ?_ | refine br_eq (by omega) ?_ | refine br_neq (by omega) ?_ | refine br_ne (by omega) ?_ | refine br_no (bo_eqn (by omega)) ?_ | refine Or.inl ?_ | refine okS_no (by kernel_rfl) ?_ | refine okS_yes (by kernel_rfl) ?_ | refine And_of (by (conv => whnf); (rw [getB_app0]); (conv => whnf)) ?_ | refine setB_app ?_ | refine setB_app0 ?_ | rw [getB_app] | rw [getB_app0] | refine addB_f13 ?_ | refine addB_f12 ?_ | refine addB_f11 ?_ | refine addB_f10 ?_ | refine addB_f9 ?_ | refine addB_f8 ?_ | refine addB_f7 ?_ | refine addB_f6 ?_ | refine addB_f5 ?_ | refine addB_f4 ?_ | refine addB_f3 ?_ | refine addB_f2 ?_ | refine addB_f1 ?_ | refine addB_f0 ?_); conv => whnf)
        exact ⟨rfl, (u0.trans w3).ex⟩
      · have hA := Turned_arg hm0 u0.sc S0 x sky step turn hc ht
        have v1 : Up M (M ++ [sV j0 j1 j2 j3 Be Wt Tr Sp sky step, sBx nilS' nilS' nilS' nilS' 0 0]) := Up.of hsc (by
        have l0 := S.read.s0.lt
        have l1 := S.read.s1.lt
        have l2 := S.read.s2.lt
        have l3 := S.read.s3.lt
        simp [scM, B.sc, scL, V.sc]; omega)
        have hB := rTurned_arg (hm.up v1) v1.sc (S.up v1) x sky step turn hc ht
        refine COk_quiet Tryz.f8 Tryz.func8 (by kernel_rfl) rfl ?_
        (conv => whnf); repeat ((first | refine ⟨_, _, haw, ?_⟩ | refine ⟨_, haw, ?_⟩ | refine ⟨_, _, hwd, ?_⟩ | refine ⟨_, hwd, ?_⟩ | refine ⟨_, _, hA, ?_⟩ | refine ⟨_, hA, ?_⟩ | refine ⟨_, _, hB, ?_⟩ | refine ⟨_, hB, ?_⟩ | refine ⟨_, _, rSame_nil _, ?_⟩ | refine ⟨_, rSame_nil _, ?_⟩ | refine br_d (by omega) ?_ | refine br_nd (by omega) ?_ | refine br_eq (by omega) ?_ | refine br_neq (by omega) ?_ | refine br_ne (by omega) ?_ | refine br_no (bo_eqn (by omega)) ?_ | refine Or.inl ?_ | refine okS_no (by kernel_rfl) ?_ | refine okS_yes (by kernel_rfl) ?_ | refine And_of (by (conv => whnf); (rw [getB_app0]); (conv => whnf)) ?_ | refine setB_app ?_ | refine setB_app0 ?_ | rw [getB_app] | rw [getB_app0] | refine addB_f13 ?_ | refine addB_f12 ?_ | refine addB_f11 ?_ | refine addB_f10 ?_ | refine addB_f9 ?_ | refine addB_f8 ?_ | refine addB_f7 ?_ | refine addB_f6 ?_ | refine addB_f5 ?_ | refine addB_f4 ?_ | refine addB_f3 ?_ | refine addB_f2 ?_ | refine addB_f1 ?_ | refine addB_f0 ?_); conv => whnf)
        exact ⟨rfl, _, rfl⟩
    · have hA := Turned_err hm0 u0.sc S0 x sky step turn hc
      have v1 : Up M (M ++ [sV j0 j1 j2 j3 Be Wt Tr Sp sky step, sBx nilS' nilS' nilS' nilS' 0 0]) := Up.of hsc (by
        have l0 := S.read.s0.lt
        have l1 := S.read.s1.lt
        have l2 := S.read.s2.lt
        have l3 := S.read.s3.lt
        simp [scM, B.sc, scL, V.sc]; omega)
      have hB := rTurned_err (hm.up v1) v1.sc (S.up v1) x sky step turn hc
      refine COk_quiet Tryz.f8 Tryz.func8 (by kernel_rfl) rfl ?_
      (conv => whnf); repeat ((first | refine ⟨_, _, haw, ?_⟩ | refine ⟨_, haw, ?_⟩ | refine ⟨_, _, hwd, ?_⟩ | refine ⟨_, hwd, ?_⟩ | refine ⟨_, _, hA, ?_⟩ | refine ⟨_, hA, ?_⟩ | refine ⟨_, _, hB, ?_⟩ | refine ⟨_, hB, ?_⟩ | refine ⟨_, _, rSame_nil _, ?_⟩ | refine ⟨_, rSame_nil _, ?_⟩ | refine br_no (bo_eqn rfl) ?_ | refine br_yes (bne_iff_ne.2 hc) ?_ | refine br_d (by omega) ?_ | refine br_nd (by omega) ?_ | refine br_eq (by omega) ?_ | refine br_neq (by omega) ?_ | refine br_ne (by omega) ?_ | refine br_no (bo_eqn (by omega)) ?_ | refine Or.inl ?_ | refine okS_no (by kernel_rfl) ?_ | refine okS_yes (by kernel_rfl) ?_ | refine And_of (by (conv => whnf); (rw [getB_app0]); (conv => whnf)) ?_ | refine setB_app ?_ | refine setB_app0 ?_ | rw [getB_app] | rw [getB_app0] | refine addB_f13 ?_ | refine addB_f12 ?_ | refine addB_f11 ?_ | refine addB_f10 ?_ | refine addB_f9 ?_ | refine addB_f8 ?_ | refine addB_f7 ?_ | refine addB_f6 ?_ | refine addB_f5 ?_ | refine addB_f4 ?_ | refine addB_f3 ?_ | refine addB_f2 ?_ | refine addB_f1 ?_ | refine addB_f0 ?_); conv => whnf)
      exact ⟨rfl, _, rfl⟩
end
end Go.Proofs.YtgoljofmbidkfaaGreatDoor
