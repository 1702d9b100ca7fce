/- Depth over every edge of every raw sea beside the document's. No condition. -/
import Derived.Test.YthoofdnnfahhaaaGreatDoorRa
import Derived.Test.YthoofdnnfahhaaaGreatDoorRx
namespace Go.Proofs.YthoofdnnfahhaaaGreatDoor
open Go Go.Eng
set_option maxRecDepth 100000
set_option linter.unusedSimpArgs false
set_option linter.unusedVariables false

theorem RNet.up {M M' : List Blk} {b n : Nat} (h : RNet M b n) (u : Up M M') : RNet M' b n := by
  obtain ⟨x, rfl⟩ := u.ex; exact h.more x
theorem same1 {a : Nat} (m : List Blk) : COk Tryz.prog 3 20 [F a, F a] m (Bo true) m := by
  have := same_ok a a m
  rwa [decide_eq_true rfl] at this
/-- Both answer the same depth. -/
theorem both12 {M : List Blk} (hm : Top M) (hsc : scM M.length M = true) {b b' n : Nat} (N : Net M b n) (R : RNet M b' n) (hn : 1 ≤ n) (hn' : n ≤ 32) {j0 j1 : Nat} {vT vS : V} {Be : List Nat} {Wt : List Int} (S0 : SlF M j0 0 Be) (S1 : SlI M j1 0 Wt) (l2 : vT.sc M.length = true) (l3 : vS.sc M.length = true) (o2 : vT.one = true) (o3 : vS.one = true) (sky step lim e : Int) (u : Nat) :
    ∃ d : Nat, COk Tryz.prog 3 40 [.ptr (b + 1) 0, I lim, seaQ j0 j1 Be.length Wt.length vT vS sky step, I e, F u] M (F d) M ∧
      COk Tryz.prog 3 41 [.ptr (b' + 1) 0, I lim, seaQ j0 j1 Be.length Wt.length vT vS sky step, I e, F u] M (F d) M := by
  by_cases he : 0 ≤ e ∧ e < (edges n).length
  · obtain ⟨k, rfl⟩ : ∃ k : Nat, e = k := ⟨e.toNat, by omega⟩
    obtain ⟨y, hx⟩ : ∃ x, (edges n)[k]? = some x := ⟨_, List.getElem?_eq_getElem (by omega)⟩
    by_cases hl : Be.length ≠ 6 * (n * n) ∨ Wt.length ≠ 6 * (n * n)
    · exact ⟨_, depth12_l N hn hn' hx o2 o3 sky step lim u hl, rdepth12_l R hn hn' hx o2 o3 sky step lim u hl⟩
    · exact ⟨_, depth12_ok hsc N S0 S1 l2 l3 o2 o3 sky step hn hx (by omega) (by omega) lim u, rdepth12_ok hm R S0 S1 o2 o3 sky step hn hn' hx (by omega) (by omega) lim u⟩
  · exact ⟨_, depth12_e N o2 o3 sky step lim e u he, rdepth12_e R o2 o3 sky step lim e u he⟩
set_option maxHeartbeats 0 in
theorem exact12_ok {M : List Blk} (hm : Top M) (hsc : scM M.length M = true) (x lim : Int) {w : Bool} {j0 j1 j2 j3 : Nat} {Be : List Nat} {Wt Tr : List Int} {Sp : List Nat} (S : SeaB M w j0 j1 j2 j3 Be Wt Tr Sp) (sky step : Int) (e : Int) (u : Nat) :
    COk Tryz.prog 3 6 [askV x lim j0 j1 j2 j3 Be.length Wt.length Tr.length Sp.length sky step, I e, F u] M (Bo true) M := by
  have l0 := S.read.s0.lt
  have l1 := S.read.s1.lt
  have l2 := S.read.s2.lt
  have l3 := S.read.s3.lt
  have u0 : Up M (M ++ ([⟨true, .cells (askL x lim j0 j1 j2 j3 Be.length Wt.length Tr.length Sp.length sky step)⟩] : List Blk)) := Up.of hsc (by simp [scM, B.sc, scL, V.sc]; omega)
  have haw := awake12_ok (hm.up u0) u0.sc
  by_cases hs : 1 ≤ x ∧ x ≤ 32
  · obtain ⟨n, rfl⟩ : ∃ n : Nat, x = n := ⟨x.toNat, by omega⟩
    obtain ⟨b, M1, hnew, N, u1⟩ := new_up (hm.up u0) u0.sc n (by omega) (by omega)
    have hm1 := (hm.up u0).up u1
    obtain ⟨b', M2, hrnew, R, u2⟩ := rnew_up hm1 u1.sc n (by omega) (by omega)
    have hm2 := hm1.up u2
    have hs2 := u2.sc
    have N := N.up u2
    have hbox : ∀ z, getB (M2 ++ z) M.length = ⟨true, .cells (askL n lim j0 j1 j2 j3 Be.length Wt.length Tr.length Sp.length sky step)⟩ := fun z => by
      obtain ⟨x, rfl⟩ := u1.ex
      obtain ⟨y, rfl⟩ := u2.ex
      exact getB_in (getB_in (getB_in getB_app0 rfl) rfl) rfl
    have hbox1 : ∀ z, getB (M1 ++ z) M.length = ⟨true, .cells (askL n lim j0 j1 j2 j3 Be.length Wt.length Tr.length Sp.length sky step)⟩ := fun z => by
      obtain ⟨x, rfl⟩ := u1.ex
      exact getB_in (getB_in getB_app0 rfl) rfl
    have hP0 := hbox []
    have hP1 := hbox1 []
    rw [List.append_nil] at hP0 hP1
    have ux := (u0.trans u1).trans u2
    have hlen := ux.len
    have S2 := S.read.up ux
    obtain ⟨d1, hA, hB⟩ := both12 hm2 hs2 N R (by omega) (by omega) (vT := .sl j2 0 Tr.length) (vS := .sl j3 0 Sp.length) S2.s0 S2.s1 (by simp [V.sc]; omega) (by simp [V.sc]; omega) rfl rfl sky step lim e u
    obtain ⟨d2, hC, hD⟩ := both12 hm2 hs2 N R (by omega) (by omega) (vT := .sl j2 0 Tr.length) (vS := .sl j3 0 Sp.length) S2.s0 S2.s1 (by simp [V.sc]; omega) (by simp [V.sc]; omega) rfl rfl sky step lim e (Op.negFloat .f64 u)
    have hE := depth12_nil (M := M2) (vT := .sl j2 0 Tr.length) (vS := .sl j3 0 Sp.length) (j0 := j0) (j1 := j1) (q0 := Be.length) (q1 := Wt.length) rfl rfl sky step lim e u
    refine COk_quiet Tryz.f6 Tryz.func6 (by kernel_rfl) rfl ?_
    (conv => whnf); repeat ((first | refine ⟨_, _, haw, ?_⟩ | refine ⟨_, _, hnew, ?_⟩ | refine ⟨_, _, hrnew, ?_⟩ | rw [hP0] | rw [hP1] | refine ⟨_, hA, ?_⟩ | refine ⟨_, hB, ?_⟩ | refine ⟨_, hC, ?_⟩ | refine ⟨_, hD, ?_⟩ | refine ⟨_, _, hE, ?_⟩ | refine ⟨_, same1 _, ?_⟩ | refine ⟨_, _, bits12_ok _ _, ?_⟩ | rw [getB_app0] | refine addB_f0 ?_); conv => whnf)
    exact ⟨rfl, ux.ex⟩
  · have hnew := new_no x hs (M ++ ([⟨true, .cells (askL x lim j0 j1 j2 j3 Be.length Wt.length Tr.length Sp.length sky step)⟩] : List Blk))
    have hrnew := rnew_no x hs (M ++ ([⟨true, .cells (askL x lim j0 j1 j2 j3 Be.length Wt.length Tr.length Sp.length sky step)⟩] : List Blk))
    have hA := fun (v : Nat) => depth12_nil (M := M ++ ([⟨true, .cells (askL x lim j0 j1 j2 j3 Be.length Wt.length Tr.length Sp.length sky step)⟩] : List Blk)) (vT := .sl j2 0 Tr.length) (vS := .sl j3 0 Sp.length) (j0 := j0) (j1 := j1) (q0 := Be.length) (q1 := Wt.length) rfl rfl sky step lim e v
    have hB := fun (v : Nat) => rdepth12_nil (M := M ++ ([⟨true, .cells (askL x lim j0 j1 j2 j3 Be.length Wt.length Tr.length Sp.length sky step)⟩] : List Blk)) (vT := .sl j2 0 Tr.length) (vS := .sl j3 0 Sp.length) (j0 := j0) (j1 := j1) (q0 := Be.length) (q1 := Wt.length) rfl rfl sky step lim e v
    refine COk_quiet Tryz.f6 Tryz.func6 (by kernel_rfl) rfl ?_
    (conv => whnf); repeat ((first | refine ⟨_, _, haw, ?_⟩ | refine ⟨_, _, hnew, ?_⟩ | refine ⟨_, _, hrnew, ?_⟩ | refine ⟨_, _, hA _, ?_⟩ | refine ⟨_, hA _, ?_⟩ | refine ⟨_, hB _, ?_⟩ | refine ⟨_, same1 _, ?_⟩ | refine ⟨_, _, bits12_ok _ _, ?_⟩ | rw [getB_app0] | refine addB_f0 ?_); conv => whnf)
    exact ⟨rfl, _, rfl⟩
end Go.Proofs.YthoofdnnfahhaaaGreatDoor
