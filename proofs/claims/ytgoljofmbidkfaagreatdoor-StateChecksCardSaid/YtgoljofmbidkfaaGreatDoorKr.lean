/- Lists that are compared and copied. No condition. -/
import Derived.Test.YtgoljofmbidkfaaGreatDoorQw
import Derived.Test.YtgoljofmbidkfaaGreatDoorLv
import Derived.Test.YtgoljofmbidkfaaGreatDoorM
namespace Go.Proofs.YtgoljofmbidkfaaGreatDoor
open Go Go.Eng
set_option maxRecDepth 100000
set_option linter.unusedSimpArgs false
set_option linter.unusedVariables false

/-- A contract for other arguments, that say as much of rows that do not grow. -/
theorem COk_argsR {f : FuncId} {args args' : List V} {m m' : List Blk} {r : V} (h : ∀ g xs, (∀ i, i < m.length → (getB m i).b.vof = 0 → (g i).4 = 0) → Rvs m.length g args xs → Rvs m.length g args' xs) (k : COk Tryz.prog 3 f args' m r m') : COk Tryz.prog 3 f args m r m' :=
  fun g w xs hg hrep ha => k g w xs hg hrep (h g xs (fun i hi hv => by
    have hb : m[i]? = some (getB m i) := by
      rw [getB_eq, List.getD_eq_getElem?_getD, List.getElem?_eq_getElem hi]; rfl
    rw [← (hrep.blk i _ hb).ver, hv]) ha)
theorem nil_sl {n : Nat} {g : Nat → Pl} {x : Value} {i : Nat} (hi : i < n) (h0 : (g i).4 = 0) (h : Rv n g nilS' x) : Rv n g (.sl i 0 0) x :=
  ⟨hi, h0, none, 0, h, Nat.le_refl _, fun h => absurd h (Nat.lt_irrefl 0)⟩
/-- No list at all, as one of no elements. -/
theorem COk_nil1 {f : FuncId} {m m' : List Blk} {r y : V} {i : Nat} (hi : i < m.length) (hv : (getB m i).b.vof = 0) (k : COk Tryz.prog 3 f [.sl i 0 0, y] m r m') : COk Tryz.prog 3 f [nilS', y] m r m' :=
  COk_argsR (fun g xs hg => Rvs_cons (fun _ => nil_sl hi (hg i hi hv)) fun _ => id) k
theorem COk_nil2 {f : FuncId} {m m' : List Blk} {r y : V} {i : Nat} (hi : i < m.length) (hv : (getB m i).b.vof = 0) (k : COk Tryz.prog 3 f [y, .sl i 0 0] m r m') : COk Tryz.prog 3 f [y, nilS'] m r m' :=
  COk_argsR (fun g xs hg => Rvs_cons (fun _ => id) fun _ => Rvs_cons (fun _ => nil_sl hi (hg i hi hv)) fun _ => id) k
theorem COk_nil0 {f : FuncId} {m m' : List Blk} {r : V} {i : Nat} (hi : i < m.length) (hv : (getB m i).b.vof = 0) (k : COk Tryz.prog 3 f [.sl i 0 0] m r m') : COk Tryz.prog 3 f [nilS'] m r m' :=
  COk_argsR (fun g xs hg => Rvs_cons (fun _ => nil_sl hi (hg i hi hv)) fun _ => id) k
theorem COk_sk1 {f : FuncId} {m m' : List Blk} {r y : V} {i o n k : Nat} (h : COk Tryz.prog 3 f [.sl i o n, y] m r m') : COk Tryz.prog 3 f [.sk i o n k, y] m r m' :=
  COk_args (fun _ _ _ => Rvs_cons (fun _ => Rv_sk) fun _ => id) h
theorem COk_sk2 {f : FuncId} {m m' : List Blk} {r y : V} {i o n k : Nat} (h : COk Tryz.prog 3 f [y, .sl i o n] m r m') : COk Tryz.prog 3 f [y, .sk i o n k] m r m' :=
  COk_args (fun _ _ _ => Rvs_cons (fun _ => id) fun _ => Rvs_cons (fun _ => Rv_sk) fun _ => id) h
theorem COk_sk0 {f : FuncId} {m m' : List Blk} {r : V} {i o n k : Nat} (h : COk Tryz.prog 3 f [.sl i o n] m r m') : COk Tryz.prog 3 f [.sk i o n k] m r m' :=
  COk_args (fun _ _ _ => Rvs_cons (fun _ => Rv_sk) fun _ => id) h
theorem same_eq (a : Nat) (m : List Blk) : COk Tryz.prog 3 37 [F a, F a] m (Bo true) m := by
  have := same_ok a a m
  rwa [decide_eq_true rfl] at this
set_option maxHeartbeats 0 in
theorem rawAll_eq {M : List Blk} (hsc : scM M.length M = true) {j1 o1 j2 o2 : Nat} {a : List Nat} (ha : SlF M j1 o1 a) (hb : SlF M j2 o2 a) : COk Tryz.prog 3 61 [.sl j1 o1 a.length, .sl j2 o2 a.length] M (Bo true) M := by
  have wa := ha.short
  have hj1 := ha.lt
  have hj2 := hb.lt
  refine COk_quiet Tryz.f61 Tryz.func61 (by kernel_rfl) rfl ?_
  (conv => whnf); repeat (refine br_no (bo_eqn (by omega)) ?_; conv => whnf)
  refine loop_to (fun k => [.sl j1 o1 a.length, .sl j2 o2 a.length, .any, .any, .any, I k, .any, .any, .any, .any, .any, .any, .any, .any, .any, .any, .any, .any, .any, .any, .any, .any, .any, .any, .any, .any, .any]) (fun _ => M) 0 a.length (Nat.zero_le _) ?_ ?_ ?_
  · refine Fg.of [] ?_ (by rw [List.append_nil]) (by simp) (by (simp [scL, V.sc]) <;> omega) hsc
    conv => whnf
    exact ⟨rfl, rfl, rfl, rfl⟩
  · intro k _ hk
    (conv => whnf); repeat ((first | refine SlF.at ha (i := k) hk rfl ?_ | refine SlF.at hb (i := k) hk rfl ?_ | refine ⟨_, same_eq _ _, ?_⟩ | refine br_d (by omega) ?_); conv => whnf)
    refine Fg.of [] ?_ (by rw [List.append_nil]) (by simp) (by (simp [scL, V.sc]) <;> omega) hsc
    conv => whnf
    exact ⟨rfl, rfl, wrapKL (by omega), rfl⟩
  · (conv => whnf); repeat (refine br_nd (by omega) ?_; conv => whnf)
    exact ⟨rfl, [], by simp⟩
/-- A list in new memory. -/
theorem rawCopied_ok {M : List Blk} (hsc : scM M.length M = true) {j n : Nat} {w : Bool} {L : List Nat} (hj : getB M j = ⟨w, .flts L⟩) (hn : n ≤ L.length) (hs : n ≤ 17592186044416) : COk Tryz.prog 3 102 [.sl j 0 n] M (.sl M.length 0 n) (M ++ [⟨true, .flts (L.take n)⟩]) := by
  have hlt : j < M.length := getB_lt hj rfl
  refine COk_of_ev Tryz.f102 Tryz.func102 (by kernel_rfl) (by simp) (by simp [V.sc, scL]) (.inr (scM_app (scM_mono (by simp) _ hsc) (by simp [scM, B.sc, scL, V.sc]))) ?_
  have hb : ∀ x, getB (M ++ x) j = ⟨w, .flts L⟩ := fun x => getB_in hj rfl
  have e1 : min n n = n := Nat.min_self n
  have g1 : Nat.ble (0 + min n n * 1) L.length = true := by rw [e1]; simpa using hn
  have g2 : Nat.ble (0 + ((L.drop 0).take (min n n * 1)).length) (List.replicate (n * 1) (0 : Nat)).length = true := by
    rw [e1, List.drop_zero, Nat.mul_one, List.length_take, List.length_replicate, Nat.min_eq_left hn]; simp
  have g3 : (List.replicate (n * 1) (0 : Nat)).take 0 ++ (L.drop 0).take (min n n * 1) ++ (List.replicate (n * 1) (0 : Nat)).drop (0 + ((L.drop 0).take (min n n * 1)).length) = L.take n := by
    rw [e1, List.drop_zero, Nat.mul_one, List.take_zero, List.nil_append, List.length_take, Nat.min_eq_left hn, Nat.zero_add, List.drop_of_length_le (by simp), List.append_nil]
  (conv => whnf); repeat ((first | refine br_d ⟨by omega, by omega, by omega, (by show (8 : Int) * _ ≤ 2 ^ 48; omega)⟩ ?_ | rw [hb] | rw [Int.toNat_natCast] | refine br_yes g1 ?_ | refine br_yes g2 ?_ | refine put_at0 (blkF g3) ?_ | refine br_d (by omega) ?_ | refine br_nd (by omega) ?_ | refine br_eq (by omega) ?_ | refine br_neq (by omega) ?_ | refine br_ne (by omega) ?_ | refine br_no (bo_eqn (by omega)) ?_ | refine Or.inl ?_ | refine okS_no (by kernel_rfl) ?_ | refine okS_yes (by kernel_rfl) ?_ | refine And_of (by (conv => whnf); (rw [getB_app0]); (conv => whnf)) ?_ | refine setB_app ?_ | refine setB_app0 ?_ | rw [getB_app] | rw [getB_app0] | refine addB_f13 ?_ | refine addB_f12 ?_ | refine addB_f11 ?_ | refine addB_f10 ?_ | refine addB_f9 ?_ | refine addB_f8 ?_ | refine addB_f7 ?_ | refine addB_f6 ?_ | refine addB_f5 ?_ | refine addB_f4 ?_ | refine addB_f3 ?_ | refine addB_f2 ?_ | refine addB_f1 ?_ | refine addB_f0 ?_); conv => whnf)
  exact ⟨rfl, [], by rw [List.append_nil]; rfl⟩
end Go.Proofs.YtgoljofmbidkfaaGreatDoor
