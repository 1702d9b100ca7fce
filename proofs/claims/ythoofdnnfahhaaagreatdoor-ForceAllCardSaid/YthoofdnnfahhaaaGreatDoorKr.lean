/- Lists that are compared and copied. No condition. -/
import Derived.Test.YthoofdnnfahhaaaGreatDoorQw
import Derived.Test.YthoofdnnfahhaaaGreatDoorLv
import Derived.Test.YthoofdnnfahhaaaGreatDoorM
namespace Go.Proofs.YthoofdnnfahhaaaGreatDoor
open Go Go.Eng
set_option maxRecDepth 100000
set_option linter.unusedSimpArgs false
set_option linter.unusedVariables false

/-- A contract for other arguments, that say as much of rows that do not grow. -/
theorem COk_argsR {f : FuncId} {args args' : List V} {m m' : List Blk} {r : V} (h : ∀ g xs, (∀ i, i < m.length → (getB m i).b.vof = 0 → (g i).4 = 0) → Rvs m.length g args xs → Rvs m.length g args' xs) (k : COk Tryz.prog 3 f args' m r m') : COk Tryz.prog 3 f args m r m' :=
  fun g w xs hg hrep ha => k g w xs hg hrep (h g xs (fun i hi hv => by
    have hb : m[i]? = some (getB m i) := by
      rw [getB_eq, List.getD_eq_getElem?_getD, List.getElem?_eq_getElem hi]; rfl
    rw [← (hrep.blk i _ hb).ver, hv]) ha)
theorem nil_sl {n : Nat} {g : Nat → Pl} {x : Value} {i : Nat} (hi : i < n) (h0 : (g i).4 = 0) (h : Rv n g nilS' x) : Rv n g (.sl i 0 0) x :=
  ⟨hi, h0, none, 0, h, Nat.le_refl _, fun h => absurd h (Nat.lt_irrefl 0)⟩
/-- No list at all, as one of no elements. -/
theorem COk_nil1 {f : FuncId} {m m' : List Blk} {r y : V} {i : Nat} (hi : i < m.length) (hv : (getB m i).b.vof = 0) (k : COk Tryz.prog 3 f [.sl i 0 0, y] m r m') : COk Tryz.prog 3 f [nilS', y] m r m' :=
  COk_argsR (fun g xs hg => Rvs_cons (fun _ => nil_sl hi (hg i hi hv)) fun _ => id) k
theorem COk_nil2 {f : FuncId} {m m' : List Blk} {r y : V} {i : Nat} (hi : i < m.length) (hv : (getB m i).b.vof = 0) (k : COk Tryz.prog 3 f [y, .sl i 0 0] m r m') : COk Tryz.prog 3 f [y, nilS'] m r m' :=
  COk_argsR (fun g xs hg => Rvs_cons (fun _ => id) fun _ => Rvs_cons (fun _ => nil_sl hi (hg i hi hv)) fun _ => id) k
theorem COk_nil0 {f : FuncId} {m m' : List Blk} {r : V} {i : Nat} (hi : i < m.length) (hv : (getB m i).b.vof = 0) (k : COk Tryz.prog 3 f [.sl i 0 0] m r m') : COk Tryz.prog 3 f [nilS'] m r m' :=
  COk_argsR (fun g xs hg => Rvs_cons (fun _ => nil_sl hi (hg i hi hv)) fun _ => id) k
theorem COk_sk1 {f : FuncId} {m m' : List Blk} {r y : V} {i o n k : Nat} (h : COk Tryz.prog 3 f [.sl i o n, y] m r m') : COk Tryz.prog 3 f [.sk i o n k, y] m r m' :=
  COk_args (fun _ _ _ => Rvs_cons (fun _ => Rv_sk) fun _ => id) h
theorem COk_sk2 {f : FuncId} {m m' : List Blk} {r y : V} {i o n k : Nat} (h : COk Tryz.prog 3 f [y, .sl i o n] m r m') : COk Tryz.prog 3 f [y, .sk i o n k] m r m' :=
  COk_args (fun _ _ _ => Rvs_cons (fun _ => id) fun _ => Rvs_cons (fun _ => Rv_sk) fun _ => id) h
theorem COk_sk0 {f : FuncId} {m m' : List Blk} {r : V} {i o n k : Nat} (h : COk Tryz.prog 3 f [.sl i o n] m r m') : COk Tryz.prog 3 f [.sk i o n k] m r m' :=
  COk_args (fun _ _ _ => Rvs_cons (fun _ => Rv_sk) fun _ => id) h
theorem same_eq (a : Nat) (m : List Blk) : COk Tryz.prog 3 20 [F a, F a] m (Bo true) m := by
  have := same_ok a a m
  rwa [decide_eq_true rfl] at this
set_option maxHeartbeats 0 in
theorem rawAll_eq {M : List Blk} (hsc : scM M.length M = true) {j1 o1 j2 o2 : Nat} {a : List Nat} (ha : SlF M j1 o1 a) (hb : SlF M j2 o2 a) : COk Tryz.prog 3 55 [.sl j1 o1 a.length, .sl j2 o2 a.length] M (Bo true) M := by
  have wa := ha.short
  have hj1 := ha.lt
  have hj2 := hb.lt
  refine COk_quiet Tryz.f55 Tryz.func55 (by kernel_rfl) rfl ?_
  (conv => whnf); repeat (refine br_no (bo_eqn (by omega)) ?_; conv => whnf)
  refine loop_to (fun k => [.sl j1 o1 a.length, .sl j2 o2 a.length, .any, .any, .any, I k, .any, .any, .any, .any, .any, .any, .any, .any, .any, .any, .any, .any, .any, .any, .any, .any, .any, .any, .any, .any, .any]) (fun _ => M) 0 a.length (Nat.zero_le _) ?_ ?_ ?_
  · refine Fg.of [] ?_ (by rw [List.append_nil]) (by simp) (by (simp [scL, V.sc]) <;> omega) hsc
    conv => whnf
    exact ⟨rfl, rfl, rfl, rfl⟩
  · intro k _ hk
    (conv => whnf); repeat ((first | refine SlF.at ha (i := k) hk rfl ?_ | refine SlF.at hb (i := k) hk rfl ?_ | refine ⟨_, same_eq _ _, ?_⟩ | refine br_d (by omega) ?_); conv => whnf)
    refine Fg.of [] ?_ (by rw [List.append_nil]) (by simp) (by (simp [scL, V.sc]) <;> omega) hsc
    conv => whnf
    exact ⟨rfl, rfl, wrapKL (by omega), rfl⟩
  · (conv => whnf); repeat (refine br_nd (by omega) ?_; conv => whnf)
    exact ⟨rfl, [], by simp⟩
end Go.Proofs.YthoofdnnfahhaaaGreatDoor
