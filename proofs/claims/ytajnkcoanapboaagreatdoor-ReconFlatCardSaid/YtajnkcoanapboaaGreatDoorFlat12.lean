/- The statement ReconFlat: its contract. No condition. -/
import Derived.Test.YtajnkcoanapboaaGreatDoorLocal12
import Derived.Test.YtajnkcoanapboaaGreatDoorGate12
import Derived.Test.YtajnkcoanapboaaGreatDoorPh
namespace Go.Proofs.YtajnkcoanapboaaGreatDoor
open Go Go.Eng
set_option maxRecDepth 100000
set_option linter.unusedSimpArgs false
set_option linter.unusedVariables false

theorem wrap64_lt (x : Int) : IntKind.i64.wrap x < 9223372036854775808 := by
  have key : IntKind.i64.wrap x = if (true && decide (x % (2 ^ 64 : Int) ≥ (2 ^ 63 : Int))) = true then x % (2 ^ 64 : Int) - 2 ^ 64 else x % (2 ^ 64 : Int) := rfl
  rw [key]
  split
  · omega
  · rename_i h
    simp at h
    omega
theorem roundO_lt {b : Nat} {v : Int} (hr : roundO b = some v) : v < 9223372036854775808 := by
  unfold roundO at hr
  split at hr
  · have := Option.some.inj hr
    rw [← this]
    split
    · exact wrap64_lt _
    · exact wrap64_lt _
  · cases hr
theorem roundT_lt (o : Option Nat) : roundT o < 9223372036854775808 := by
  unfold roundT
  split
  · decide
  · split
    · rename_i h; exact roundO_lt h
    · split
      · omega
      · omega
theorem areaT_lt (n f i j : Nat) : areaT n f i j < 18446744073709551616 := by
  have := roundT_lt (areaY (cornerF n f i j) (cornerF n f (i + 1) j) (cornerF n f (i + 1) (j + 1)) (cornerF n f i (j + 1)))
  unfold areaT
  simp only
  split <;> omega
theorem areaC_lt (n c : Nat) : areaC n c < 18446744073709551616 := areaT_lt _ _ _ _
theorem least {p : Nat → Prop} : ∀ n, p n → ∃ m, p m ∧ (∀ k, k < m → ¬ p k) ∧ m ≤ n := by
  intro n
  induction n using Nat.strongRecOn with
  | ind n ih =>
    intro hp
    by_cases h : ∃ k, k < n ∧ p k
    · obtain ⟨k, hk, hpk⟩ := h
      obtain ⟨m, a, b, c⟩ := ih k hk hpk
      exact ⟨m, a, b, by omega⟩
    · exact ⟨n, hp, fun k hk hpk => h ⟨k, hk, hpk⟩, Nat.le_refl _⟩
theorem recon_flat {n : Nat} {lim : Int} {N : Nat} {Wt : List Int} {y : Ed} {H K R : Nat} (h1 : Dep (dpE n Wt y.1) H) (h2 : dpE n Wt (nbC n y.1 ((y.2.1 + 2) % 4)).1 = some K) (h3 : dpE n Wt y.2.2.1 = some R) :
    reconF n lim (List.replicate N 0) Wt y one1 = dH lim H K R := by
  rw [recon_one]
  unfold dH slantF slantH slH gateF levelF
  have e0 : ∀ c, (List.replicate N (0 : Nat)).getD c 0 = 0 := fun c => by
    rw [List.getD_eq_getElem?_getD, List.getElem?_replicate]; split <;> rfl
  have hd : depthF (Wt.getD y.1 0) (areaC n y.1) = some H := h1.1
  rw [h1.1, h2, h3, e0, e0, hd, z_add h1.2.1, show maxO (some 0) (some 0) = 0 by decide +kernel]
  have := canon_wd false (Nat.le_of_lt h1.2.1)
  rw [wd_false] at this
  rw [this, show cw false H = H from (by unfold cw; split; · rename_i h; exact h.symm
                                         · rfl), sub_z h1.2.1]
set_option maxHeartbeats 0 in
theorem flat12r_ok {M : List Blk} (hm : Top M) (hsc : scM M.length M = true) (x lim : Int) {w : Bool} {j0 j1 j2 j3 : Nat} {Be : List Nat} {Wt Tr : List Int} {Sp : List Nat} (S : SeaB M w j0 j1 j2 j3 Be Wt Tr Sp) (sky step : Int) (k : Int) :
    COk Tryz.prog 3 10 [askV x lim j0 j1 j2 j3 Be.length Wt.length Tr.length Sp.length sky step, I k] M (Bo true) M := by
  have l0 := S.read.s0.lt
  have l1 := S.read.s1.lt
  have l2 := S.read.s2.lt
  have l3 := S.read.s3.lt
  have u0 : Up M (M ++ ([⟨true, .cells (askL x lim j0 j1 j2 j3 Be.length Wt.length Tr.length Sp.length sky step)⟩] : List Blk)) := Up.of hsc (by simp [scM, B.sc, scL, V.sc]; omega)
  have haw := awake12_ok (hm.up u0) u0.sc
  have hlen0 := u0.len
  rcases net12_ok (hm.up u0) u0.sc x lim (n0 := Be.length) (n1 := Wt.length) (n2 := Tr.length) (n3 := Sp.length) (show j0 < _ by omega) (show j1 < _ by omega) (show j2 < _ by omega) (show j3 < _ by omega) sky step with ⟨r, M1, hnet, u1, rfl | ⟨b', rfl⟩⟩ | ⟨n, b, M1, rfl, hn, hn', e0, e1, hnet, hN, u1⟩
  iterate 2
    · refine COk_quiet Tryz.f10 Tryz.func10 (by kernel_rfl) rfl ?_
      (conv => whnf); repeat (first | (refine ⟨_, _, haw, ?_⟩; conv => whnf) | (refine ⟨_, haw, ?_⟩; conv => whnf) | (refine ⟨_, _, hnet, ?_⟩; conv => whnf) | (refine ⟨_, hnet, ?_⟩; conv => whnf) | (refine br_d (by omega) ?_; conv => whnf) | (refine br_nd (by omega) ?_; conv => whnf) | (refine br_eq (by omega) ?_; conv => whnf) | (refine br_neq (by omega) ?_; conv => whnf) | (refine br_ne (by omega) ?_; conv => whnf) | (refine br_no (bo_eqn (by omega)) ?_; conv => whnf) | (refine Or.inl ?_; conv => whnf) | (refine okS_no (by kernel_rfl) ?_; conv => whnf) | (refine okS_yes (by kernel_rfl) ?_; conv => whnf) | (refine And_of (by (conv => whnf); (rw [getB_app0]); (conv => whnf)) ?_; conv => whnf) | (refine setB_app ?_; conv => whnf) | (refine setB_app0 ?_; conv => whnf) | (rw [getB_app]; conv => whnf) | (rw [getB_app0]; conv => whnf) | (refine addB_f13 ?_; conv => whnf) | (refine addB_f12 ?_; conv => whnf) | (refine addB_f11 ?_; conv => whnf) | (refine addB_f10 ?_; conv => whnf) | (refine addB_f9 ?_; conv => whnf) | (refine addB_f8 ?_; conv => whnf) | (refine addB_f7 ?_; conv => whnf) | (refine addB_f6 ?_; conv => whnf) | (refine addB_f5 ?_; conv => whnf) | (refine addB_f4 ?_; conv => whnf) | (refine addB_f3 ?_; conv => whnf) | (refine addB_f2 ?_; conv => whnf) | (refine addB_f1 ?_; conv => whnf) | (refine addB_f0 ?_; conv => whnf))
      exact ⟨rfl, (u0.trans u1).ex⟩
  have hP : ∀ y, getB (M1 ++ y) M.length = ⟨true, .cells (askL n lim j0 j1 j2 j3 Be.length Wt.length Tr.length Sp.length sky step)⟩ := fun y => by
    obtain ⟨z, rfl⟩ := u1.ex
    exact getB_in (getB_in getB_app0 rfl) rfl
  have hP0 := hP []
  rw [List.append_nil] at hP0
  have S1 := (S.up (u0.trans u1)).read
  have hlen := u1.len
  have hl1 : (M ++ ([⟨true, .cells (askL n lim j0 j1 j2 j3 Be.length Wt.length Tr.length Sp.length sky step)⟩] : List Blk)).length = M.length + 1 := by simp
  have hb := hN.lt
  have hel := edges_len hn
  have hsq : n * n ≤ 1024 := Nat.mul_le_mul hn' hn'
  have hsq1 : 1 ≤ n * n := Nat.mul_le_mul hn hn
  have hWB : Wt.length = Be.length := by rw [e0, e1]
  have hge : ∀ z, COk Tryz.prog 3 40 [.ptr (b + 1) 0] (M1 ++ z) (I Be.length) (M1 ++ z) := fun z => by rw [e0]; exact gcells_ok (hN.more z)
  have hge0 := hge []
  rw [List.append_nil] at hge0
  have uF : Up M1 (M1 ++ ([⟨true, .flts (List.replicate (Be.length * 1) 0)⟩, ⟨true, .cells [.sl M1.length 0 Be.length, .sl j1 0 Wt.length, .raw (.slice none 0 0), .raw (.slice none 0 0), .int .i64 0, I 0]⟩] : List Blk)) := Up.of u1.sc (by simp [scM, B.sc, scL, V.sc]; omega)
  have hF : ∀ z, getB (M1 ++ (⟨true, .flts (List.replicate (Be.length * 1) 0)⟩ :: ⟨true, .cells [.sl M1.length 0 Be.length, .sl j1 0 Wt.length, .raw (.slice none 0 0), .raw (.slice none 0 0), .int .i64 0, I 0]⟩ :: z)) (M1.length + 1) = ⟨true, .cells [.sl M1.length 0 Be.length, .sl j1 0 Wt.length, .raw (.slice none 0 0), .raw (.slice none 0 0), .int .i64 0, I 0]⟩ := fun z => getB_app 1
  by_cases hbad : ∃ c, c < Be.length ∧ (Wt.getD c 0 < 0 ∨ Wt.getD c 0 > 4503599627370496)
  · obtain ⟨c', hc'⟩ := hbad
    obtain ⟨c0, ⟨h1, h2⟩, h3, _⟩ := least (p := fun c => c < Be.length ∧ (Wt.getD c 0 < 0 ∨ Wt.getD c 0 > 4503599627370496)) c' hc'
    refine COk_quiet Tryz.f10 Tryz.func10 (by kernel_rfl) rfl ?_
    (conv => whnf); repeat (first | (refine ⟨_, _, haw, ?_⟩; conv => whnf) | (refine ⟨_, haw, ?_⟩; conv => whnf) | (refine ⟨_, _, hnet, ?_⟩; conv => whnf) | (refine ⟨_, hnet, ?_⟩; conv => whnf) | (refine ⟨_, _, hge0, ?_⟩; conv => whnf) | (refine ⟨_, hge0, ?_⟩; conv => whnf) | (refine ⟨_, _, hge _, ?_⟩; conv => whnf) | (refine ⟨_, hge _, ?_⟩; conv => whnf) | (refine askQ hge0 rfl ?_; conv => whnf) | (refine askQ (hge _) rfl ?_; conv => whnf) | (refine And_of (by (conv => whnf); (rw [hP]); (conv => whnf)) ?_; conv => whnf) | (refine And_of (by (conv => whnf); (rw [hP0]); (conv => whnf)) ?_; conv => whnf) | (rw [hP]; conv => whnf) | (rw [hP0]; conv => whnf) | (refine br_d ⟨by omega, by omega, by omega, (by show (8 : Int) * _ ≤ 2 ^ 48; omega)⟩ ?_; conv => whnf) | (refine br_d (by omega) ?_; conv => whnf) | (refine br_nd (by omega) ?_; conv => whnf) | (refine br_eq (by omega) ?_; conv => whnf) | (refine br_neq (by omega) ?_; conv => whnf) | (refine br_ne (by omega) ?_; conv => whnf) | (refine br_no (bo_eqn (by omega)) ?_; conv => whnf) | (refine Or.inl ?_; conv => whnf) | (refine okS_no (by kernel_rfl) ?_; conv => whnf) | (refine okS_yes (by kernel_rfl) ?_; conv => whnf) | (refine And_of (by (conv => whnf); (rw [getB_app0]); (conv => whnf)) ?_; conv => whnf) | (refine setB_app ?_; conv => whnf) | (refine setB_app0 ?_; conv => whnf) | (rw [getB_app]; conv => whnf) | (rw [getB_app0]; conv => whnf) | (refine addB_f13 ?_; conv => whnf) | (refine addB_f12 ?_; conv => whnf) | (refine addB_f11 ?_; conv => whnf) | (refine addB_f10 ?_; conv => whnf) | (refine addB_f9 ?_; conv => whnf) | (refine addB_f8 ?_; conv => whnf) | (refine addB_f7 ?_; conv => whnf) | (refine addB_f6 ?_; conv => whnf) | (refine addB_f5 ?_; conv => whnf) | (refine addB_f4 ?_; conv => whnf) | (refine addB_f3 ?_; conv => whnf) | (refine addB_f2 ?_; conv => whnf) | (refine addB_f1 ?_; conv => whnf) | (refine addB_f0 ?_; conv => whnf))
    refine loop_to (fun c => [.any, I k, .ptr M.length 0, .any, .any, .ptr (b + 1) 0, .any, .ptr (M1.length + 1) 0, I c, .any, .any, .any, .any, .any, .any, .any, .any, .any, .any, .any, .any, .any, .any, .any, .any, .any, .any, .any, .any, .any, .any, .any, .any, .any, .any, .any, .any, .any, .any, .any, .any, .any, .any, .any, .any, .any, .any, .any, .any, .any, .any, .any, .any, .any, .any, .any, .any, .any, .any, .any, .any, .any, .any, .any, .any, .any, .any, .any, .any, .any, .any, .any, .any, .any, .any, .any, .any, .any, .any, .any, .any, .any, .any, .any, .any, .any, .any, .any, .any, .any, .any, .any, .any, .any, .any, .any, .any, .any, .any, .any, .any, .any, .any, .any, .any, .any, .any, .any, .any, .any, .any, .any, .any, .any, .any, .any, .any, .any, .any, .any, .any, .any, .any, .any, .any, .any, .any, .any, .any, .any, .any, .any, .any, .any, .any, .any, .any, .any, .any, .any, .any, .any, .any, .any, .any, .any, .any, .any, .any, .any, .any, .any, .any, .any, .any, .any, .any, .any]) (fun c => M1 ++ ([⟨true, .flts (List.replicate (Be.length * 1) 0)⟩, ⟨true, .cells [.sl M1.length 0 Be.length, .sl j1 0 Wt.length, .raw (.slice none 0 0), .raw (.slice none 0 0), .int .i64 0, I 0]⟩] : List Blk)) 0 c0 (Nat.zero_le _) ?_ ?_ ?_
    · refine Fg.of [] ?_ (by rw [List.append_nil]; try rfl) (by simp) (by (simp [scL, V.sc]) <;> omega) uF.sc
      conv => whnf
      exact ⟨rfl, rfl, rfl, rfl, rfl, rfl⟩
    · intro c _ hc
      have hc2 := h3 c hc
      have hok : 0 ≤ Wt.getD c 0 ∧ Wt.getD c 0 ≤ 4503599627370496 := by omega
      obtain ⟨k1, k2⟩ := hok
      (conv => whnf); repeat (first | (refine ⟨_, _, hge _, ?_⟩; conv => whnf) | (refine ⟨_, hge _, ?_⟩; conv => whnf) | (rw [hF]; conv => whnf) | (refine SlI.at (S1.s1.app _) (i := c) (by omega) rfl ?_; conv => whnf) | (refine br_d (by omega) ?_; conv => whnf) | (refine br_nd (by omega) ?_; conv => whnf) | (refine br_eq (by omega) ?_; conv => whnf) | (refine br_neq (by omega) ?_; conv => whnf) | (refine br_ne (by omega) ?_; conv => whnf) | (refine br_no (bo_eqn (by omega)) ?_; conv => whnf) | (refine Or.inl ?_; conv => whnf) | (refine okS_no (by kernel_rfl) ?_; conv => whnf) | (refine okS_yes (by kernel_rfl) ?_; conv => whnf) | (refine And_of (by (conv => whnf); (rw [getB_app0]); (conv => whnf)) ?_; conv => whnf) | (refine setB_app ?_; conv => whnf) | (refine setB_app0 ?_; conv => whnf) | (rw [getB_app]; conv => whnf) | (rw [getB_app0]; conv => whnf) | (refine addB_f13 ?_; conv => whnf) | (refine addB_f12 ?_; conv => whnf) | (refine addB_f11 ?_; conv => whnf) | (refine addB_f10 ?_; conv => whnf) | (refine addB_f9 ?_; conv => whnf) | (refine addB_f8 ?_; conv => whnf) | (refine addB_f7 ?_; conv => whnf) | (refine addB_f6 ?_; conv => whnf) | (refine addB_f5 ?_; conv => whnf) | (refine addB_f4 ?_; conv => whnf) | (refine addB_f3 ?_; conv => whnf) | (refine addB_f2 ?_; conv => whnf) | (refine addB_f1 ?_; conv => whnf) | (refine addB_f0 ?_; conv => whnf))
      refine Fg.of [] ?_ (by rw [List.append_nil]; try rfl) (by simp) (by (simp [scL, V.sc]) <;> omega) uF.sc
      conv => whnf
      exact ⟨rfl, rfl, rfl, rfl, wrapKL (by omega), rfl⟩
    · rcases h2 with h2 | h2
      · (conv => whnf); repeat (first | (refine ⟨_, _, hge _, ?_⟩; conv => whnf) | (refine ⟨_, hge _, ?_⟩; conv => whnf) | (rw [hF]; conv => whnf) | (refine SlI.at (S1.s1.app _) (i := c0) (by omega) rfl ?_; conv => whnf) | (refine br_d (by omega) ?_; conv => whnf) | (refine br_nd (by omega) ?_; conv => whnf) | (refine br_eq (by omega) ?_; conv => whnf) | (refine br_neq (by omega) ?_; conv => whnf) | (refine br_ne (by omega) ?_; conv => whnf) | (refine br_no (bo_eqn (by omega)) ?_; conv => whnf) | (refine Or.inl ?_; conv => whnf) | (refine okS_no (by kernel_rfl) ?_; conv => whnf) | (refine okS_yes (by kernel_rfl) ?_; conv => whnf) | (refine And_of (by (conv => whnf); (rw [getB_app0]); (conv => whnf)) ?_; conv => whnf) | (refine setB_app ?_; conv => whnf) | (refine setB_app0 ?_; conv => whnf) | (rw [getB_app]; conv => whnf) | (rw [getB_app0]; conv => whnf) | (refine addB_f13 ?_; conv => whnf) | (refine addB_f12 ?_; conv => whnf) | (refine addB_f11 ?_; conv => whnf) | (refine addB_f10 ?_; conv => whnf) | (refine addB_f9 ?_; conv => whnf) | (refine addB_f8 ?_; conv => whnf) | (refine addB_f7 ?_; conv => whnf) | (refine addB_f6 ?_; conv => whnf) | (refine addB_f5 ?_; conv => whnf) | (refine addB_f4 ?_; conv => whnf) | (refine addB_f3 ?_; conv => whnf) | (refine addB_f2 ?_; conv => whnf) | (refine addB_f1 ?_; conv => whnf) | (refine addB_f0 ?_; conv => whnf))
        exact ⟨rfl, ((u0.trans u1).trans uF).ex⟩
      · (conv => whnf); repeat (first | (refine ⟨_, _, hge _, ?_⟩; conv => whnf) | (refine ⟨_, hge _, ?_⟩; conv => whnf) | (rw [hF]; conv => whnf) | (refine SlI.at (S1.s1.app _) (i := c0) (by omega) rfl ?_; conv => whnf) | (refine br_d (by omega) ?_; conv => whnf) | (refine br_nd (by omega) ?_; conv => whnf) | (refine br_eq (by omega) ?_; conv => whnf) | (refine br_neq (by omega) ?_; conv => whnf) | (refine br_ne (by omega) ?_; conv => whnf) | (refine br_no (bo_eqn (by omega)) ?_; conv => whnf) | (refine Or.inl ?_; conv => whnf) | (refine okS_no (by kernel_rfl) ?_; conv => whnf) | (refine okS_yes (by kernel_rfl) ?_; conv => whnf) | (refine And_of (by (conv => whnf); (rw [getB_app0]); (conv => whnf)) ?_; conv => whnf) | (refine setB_app ?_; conv => whnf) | (refine setB_app0 ?_; conv => whnf) | (rw [getB_app]; conv => whnf) | (rw [getB_app0]; conv => whnf) | (refine addB_f13 ?_; conv => whnf) | (refine addB_f12 ?_; conv => whnf) | (refine addB_f11 ?_; conv => whnf) | (refine addB_f10 ?_; conv => whnf) | (refine addB_f9 ?_; conv => whnf) | (refine addB_f8 ?_; conv => whnf) | (refine addB_f7 ?_; conv => whnf) | (refine addB_f6 ?_; conv => whnf) | (refine addB_f5 ?_; conv => whnf) | (refine addB_f4 ?_; conv => whnf) | (refine addB_f3 ?_; conv => whnf) | (refine addB_f2 ?_; conv => whnf) | (refine addB_f1 ?_; conv => whnf) | (refine addB_f0 ?_; conv => whnf))
        exact ⟨rfl, ((u0.trans u1).trans uF).ex⟩
  have hall : ∀ c, c < Be.length → 0 ≤ Wt.getD c 0 ∧ Wt.getD c 0 ≤ 4503599627370496 := fun c hc => by
    have : ¬ (Wt.getD c 0 < 0 ∨ Wt.getD c 0 > 4503599627370496) := fun h => hbad ⟨c, hc, h⟩
    omega
  obtain ⟨q, hq, hwi⟩ := within12_ok k (edges n).length (by omega) (by omega)
  have hgd := fun z => gedges_ok (hN.more z)
  have hx := List.getElem?_eq_getElem (l := edges n) hq
  generalize (edges n)[q] = y at hx
  obtain ⟨c1, s1, c12, c2, s2, _⟩ := edge_of hn hx
  have b1' := (nbC_lt (s := (y.2.1 + 2) % 4) hn c1).1
  have hbe := fun z => behind_ok (hN.more z) q y hx
  obtain ⟨H, dH'⟩ := dep_word (w := Wt.getD y.1 0) (a := areaC n y.1) (by have := (hall y.1 (by omega)).2; omega) (areaC_lt _ _)
  obtain ⟨K, dK'⟩ := dep_word (w := Wt.getD (nbC n y.1 ((y.2.1 + 2) % 4)).1 0) (a := areaC n (nbC n y.1 ((y.2.1 + 2) % 4)).1) (by have := (hall (nbC n y.1 ((y.2.1 + 2) % 4)).1 (by omega)).2; omega) (areaC_lt _ _)
  obtain ⟨R, dR'⟩ := dep_word (w := Wt.getD y.2.2.1 0) (a := areaC n y.2.2.1) (by have := (hall y.2.2.1 (by omega)).2; omega) (areaC_lt _ _)
  have hH := dH'.2.1
  have hK := dK'.2.1
  have hR := dR'.2.1
  have dU : ∀ m, COk Tryz.prog 3 37 [I (Wt.getD y.1 0), I (areaC n y.1)] m (F H) m := fun m => by have := depth_ok (Wt.getD y.1 0) (areaC n y.1) m; rwa [dH'.1] at this
  have dV : ∀ m, COk Tryz.prog 3 37 [I (Wt.getD (nbC n y.1 ((y.2.1 + 2) % 4)).1 0), I (areaC n (nbC n y.1 ((y.2.1 + 2) % 4)).1)] m (F K) m := fun m => by have := depth_ok (Wt.getD (nbC n y.1 ((y.2.1 + 2) % 4)).1 0) (areaC n (nbC n y.1 ((y.2.1 + 2) % 4)).1) m; rwa [dK'.1] at this
  have dW : ∀ m, COk Tryz.prog 3 37 [I (Wt.getD y.2.2.1 0), I (areaC n y.2.2.1)] m (F R) m := fun m => by have := depth_ok (Wt.getD y.2.2.1 0) (areaC n y.2.2.1) m; rwa [dR'.1] at this
  have uE : Up M1 (M1 ++ ([⟨true, .flts (List.replicate (Be.length * 1) 0)⟩, ⟨true, .cells [.sl M1.length 0 Be.length, .sl j1 0 Wt.length, .raw (.slice none 0 0), .raw (.slice none 0 0), .int .i64 0, I 0]⟩, ⟨true, .cells [I y.1, I y.2.1, I y.2.2.1, I y.2.2.2]⟩] : List Blk)) := Up.of u1.sc (by simp [scM, B.sc, scL, V.sc]; omega)
  have hE : getB (M1 ++ ([⟨true, .flts (List.replicate (Be.length * 1) 0)⟩, ⟨true, .cells [.sl M1.length 0 Be.length, .sl j1 0 Wt.length, .raw (.slice none 0 0), .raw (.slice none 0 0), .int .i64 0, I 0]⟩, ⟨true, .cells [I y.1, I y.2.1, I y.2.2.1, I y.2.2.2]⟩] : List Blk)) (M1.length + 2) = ⟨true, .cells [I y.1, I y.2.1, I y.2.2.1, I y.2.2.2]⟩ := getB_app 2
  have hrl : (List.replicate (Be.length * 1) (0 : Nat)).length = Be.length := by rw [List.length_replicate, Nat.mul_one]
  have Z0 : SlF (M1 ++ ([⟨true, .flts (List.replicate (Be.length * 1) 0)⟩, ⟨true, .cells [.sl M1.length 0 Be.length, .sl j1 0 Wt.length, .raw (.slice none 0 0), .raw (.slice none 0 0), .int .i64 0, I 0]⟩, ⟨true, .cells [I y.1, I y.2.1, I y.2.2.1, I y.2.2.2]⟩] : List Blk)) M1.length 0 (List.replicate (Be.length * 1) 0) := SlF.whole getB_app0 (fun i hi => by
    rw [List.getD_eq_getElem?_getD, List.getElem?_replicate]; split <;> decide) (by rw [hrl]; omega)
  have hdd := fun l => depth12_ok (vT := .raw (.slice none 0 0)) (vS := .raw (.slice none 0 0)) uE.sc (hN.up uE) Z0 (S1.s1.app _) rfl rfl rfl rfl 0 0 hn hx (by rw [hrl]; exact e0) e1 l one1
  have hrf := fun l => recon_flat (n := n) (lim := l) (N := Be.length * 1) (Wt := Wt) (y := y) dH' dK'.1 dR'.1
  have hdl := hdd lim
  have hd0 := hdd 0
  rw [hrf, hrl] at hdl hd0
  rw [flat_0 hH (lim0_0 H K R)] at hd0
  have q1 := flat_le lim (K := K) (R := R) hH
  have q2 : lim = 1 → fge (some (dH lim H K R)) (fmul (some halfB) (some H)) = true := fun h => by rw [h]; exact flat_half dH'.2.2 hH hK hR
  have hpk : ((K ≤ H ∧ R ≤ H) ∨ (H ≤ K ∧ H ≤ R)) → dH lim H K R = H := fun h => flat_0 hH (peak_0 lim hH hK hR h)
  have b1 := ge_w hH hK
  have b2 := ge_w hH hR
  have b3 := le_w hH hK
  have b4 := le_w hH hR
  generalize dH lim H K R = d at hdl q1 q2 hpk
  refine COk_quiet Tryz.f10 Tryz.func10 (by kernel_rfl) rfl ?_
  (conv => whnf); repeat (first | (refine ⟨_, _, haw, ?_⟩; conv => whnf) | (refine ⟨_, haw, ?_⟩; conv => whnf) | (refine ⟨_, _, hnet, ?_⟩; conv => whnf) | (refine ⟨_, hnet, ?_⟩; conv => whnf) | (refine ⟨_, _, hge0, ?_⟩; conv => whnf) | (refine ⟨_, hge0, ?_⟩; conv => whnf) | (refine ⟨_, _, hge _, ?_⟩; conv => whnf) | (refine ⟨_, hge _, ?_⟩; conv => whnf) | (refine askQ hge0 rfl ?_; conv => whnf) | (refine askQ (hge _) rfl ?_; conv => whnf) | (refine And_of (by (conv => whnf); (rw [hP]); (conv => whnf)) ?_; conv => whnf) | (refine And_of (by (conv => whnf); (rw [hP0]); (conv => whnf)) ?_; conv => whnf) | (rw [hP]; conv => whnf) | (rw [hP0]; conv => whnf) | (refine br_d ⟨by omega, by omega, by omega, (by show (8 : Int) * _ ≤ 2 ^ 48; omega)⟩ ?_; conv => whnf) | (refine br_d (by omega) ?_; conv => whnf) | (refine br_nd (by omega) ?_; conv => whnf) | (refine br_eq (by omega) ?_; conv => whnf) | (refine br_neq (by omega) ?_; conv => whnf) | (refine br_ne (by omega) ?_; conv => whnf) | (refine br_no (bo_eqn (by omega)) ?_; conv => whnf) | (refine Or.inl ?_; conv => whnf) | (refine okS_no (by kernel_rfl) ?_; conv => whnf) | (refine okS_yes (by kernel_rfl) ?_; conv => whnf) | (refine And_of (by (conv => whnf); (rw [getB_app0]); (conv => whnf)) ?_; conv => whnf) | (refine setB_app ?_; conv => whnf) | (refine setB_app0 ?_; conv => whnf) | (rw [getB_app]; conv => whnf) | (rw [getB_app0]; conv => whnf) | (refine addB_f13 ?_; conv => whnf) | (refine addB_f12 ?_; conv => whnf) | (refine addB_f11 ?_; conv => whnf) | (refine addB_f10 ?_; conv => whnf) | (refine addB_f9 ?_; conv => whnf) | (refine addB_f8 ?_; conv => whnf) | (refine addB_f7 ?_; conv => whnf) | (refine addB_f6 ?_; conv => whnf) | (refine addB_f5 ?_; conv => whnf) | (refine addB_f4 ?_; conv => whnf) | (refine addB_f3 ?_; conv => whnf) | (refine addB_f2 ?_; conv => whnf) | (refine addB_f1 ?_; conv => whnf) | (refine addB_f0 ?_; conv => whnf))
  refine loop_to (fun c => [.any, I k, .ptr M.length 0, .any, .any, .ptr (b + 1) 0, .any, .ptr (M1.length + 1) 0, I c, .any, .any, .any, .any, .any, .any, .any, .any, .any, .any, .any, .any, .any, .any, .any, .any, .any, .any, .any, .any, .any, .any, .any, .any, .any, .any, .any, .any, .any, .any, .any, .any, .any, .any, .any, .any, .any, .any, .any, .any, .any, .any, .any, .any, .any, .any, .any, .any, .any, .any, .any, .any, .any, .any, .any, .any, .any, .any, .any, .any, .any, .any, .any, .any, .any, .any, .any, .any, .any, .any, .any, .any, .any, .any, .any, .any, .any, .any, .any, .any, .any, .any, .any, .any, .any, .any, .any, .any, .any, .any, .any, .any, .any, .any, .any, .any, .any, .any, .any, .any, .any, .any, .any, .any, .any, .any, .any, .any, .any, .any, .any, .any, .any, .any, .any, .any, .any, .any, .any, .any, .any, .any, .any, .any, .any, .any, .any, .any, .any, .any, .any, .any, .any, .any, .any, .any, .any, .any, .any, .any, .any, .any, .any, .any, .any, .any, .any, .any, .any]) (fun c => M1 ++ ([⟨true, .flts (List.replicate (Be.length * 1) 0)⟩, ⟨true, .cells [.sl M1.length 0 Be.length, .sl j1 0 Wt.length, .raw (.slice none 0 0), .raw (.slice none 0 0), .int .i64 0, I 0]⟩] : List Blk)) 0 Be.length (Nat.zero_le _) ?_ ?_ ?_
  · refine Fg.of [] ?_ (by rw [List.append_nil]; try rfl) (by simp) (by (simp [scL, V.sc]) <;> omega) uF.sc
    conv => whnf
    exact ⟨rfl, rfl, rfl, rfl, rfl, rfl⟩
  · intro c _ hc
    obtain ⟨k1, k2⟩ := hall c hc
    (conv => whnf); repeat (first | (refine ⟨_, _, hge _, ?_⟩; conv => whnf) | (refine ⟨_, hge _, ?_⟩; conv => whnf) | (rw [hF]; conv => whnf) | (refine SlI.at (S1.s1.app _) (i := c) (by omega) rfl ?_; conv => whnf) | (refine br_d (by omega) ?_; conv => whnf) | (refine br_nd (by omega) ?_; conv => whnf) | (refine br_eq (by omega) ?_; conv => whnf) | (refine br_neq (by omega) ?_; conv => whnf) | (refine br_ne (by omega) ?_; conv => whnf) | (refine br_no (bo_eqn (by omega)) ?_; conv => whnf) | (refine Or.inl ?_; conv => whnf) | (refine okS_no (by kernel_rfl) ?_; conv => whnf) | (refine okS_yes (by kernel_rfl) ?_; conv => whnf) | (refine And_of (by (conv => whnf); (rw [getB_app0]); (conv => whnf)) ?_; conv => whnf) | (refine setB_app ?_; conv => whnf) | (refine setB_app0 ?_; conv => whnf) | (rw [getB_app]; conv => whnf) | (rw [getB_app0]; conv => whnf) | (refine addB_f13 ?_; conv => whnf) | (refine addB_f12 ?_; conv => whnf) | (refine addB_f11 ?_; conv => whnf) | (refine addB_f10 ?_; conv => whnf) | (refine addB_f9 ?_; conv => whnf) | (refine addB_f8 ?_; conv => whnf) | (refine addB_f7 ?_; conv => whnf) | (refine addB_f6 ?_; conv => whnf) | (refine addB_f5 ?_; conv => whnf) | (refine addB_f4 ?_; conv => whnf) | (refine addB_f3 ?_; conv => whnf) | (refine addB_f2 ?_; conv => whnf) | (refine addB_f1 ?_; conv => whnf) | (refine addB_f0 ?_; conv => whnf))
    refine Fg.of [] ?_ (by rw [List.append_nil]; try rfl) (by simp) (by (simp [scL, V.sc]) <;> omega) uF.sc
    conv => whnf
    exact ⟨rfl, rfl, rfl, rfl, wrapKL (by omega), rfl⟩
  · (conv => whnf); repeat (first | (refine ⟨_, _, hgd _, ?_⟩; conv => whnf) | (refine ⟨_, hgd _, ?_⟩; conv => whnf) | (refine ⟨_, _, hwi _, ?_⟩; conv => whnf) | (refine ⟨_, hwi _, ?_⟩; conv => whnf) | (refine ⟨_, _, edge_ok (hN.more _) q y hx, ?_⟩; conv => whnf) | (refine ⟨_, edge_ok (hN.more _) q y hx, ?_⟩; conv => whnf) | (refine ⟨_, _, hbe _, ?_⟩; conv => whnf) | (refine ⟨_, hbe _, ?_⟩; conv => whnf) | (rw [hP]; conv => whnf) | (refine ⟨_, _, area_ok (hN.more _) y.1 c1, ?_⟩; conv => whnf) | (refine ⟨_, area_ok (hN.more _) y.1 c1, ?_⟩; conv => whnf) | (refine ⟨_, _, area_ok (hN.more _) y.2.2.1 c2, ?_⟩; conv => whnf) | (refine ⟨_, area_ok (hN.more _) y.2.2.1 c2, ?_⟩; conv => whnf) | (refine ⟨_, _, area_ok (hN.more _) (nbC n y.1 ((y.2.1 + 2) % 4)).1 b1', ?_⟩; conv => whnf) | (refine ⟨_, area_ok (hN.more _) (nbC n y.1 ((y.2.1 + 2) % 4)).1 b1', ?_⟩; conv => whnf) | (refine ⟨_, _, dU _, ?_⟩; conv => whnf) | (refine ⟨_, dU _, ?_⟩; conv => whnf) | (refine ⟨_, _, dV _, ?_⟩; conv => whnf) | (refine ⟨_, dV _, ?_⟩; conv => whnf) | (refine ⟨_, _, dW _, ?_⟩; conv => whnf) | (refine ⟨_, dW _, ?_⟩; conv => whnf) | (refine SlI.at (S1.s1.app _) (i := y.1) (by omega) rfl ?_; conv => whnf) | (refine SlI.at (S1.s1.app _) (i := y.2.2.1) (by omega) rfl ?_; conv => whnf) | (refine SlI.at (S1.s1.app _) (i := (nbC n y.1 ((y.2.1 + 2) % 4)).1) (by omega) rfl ?_; conv => whnf) | (refine ⟨_, _, hdl, ?_⟩; conv => whnf) | (refine ⟨_, hdl, ?_⟩; conv => whnf) | (refine ⟨_, _, hd0, ?_⟩; conv => whnf) | (refine ⟨_, hd0, ?_⟩; conv => whnf) | (refine ⟨_, _, hge _, ?_⟩; conv => whnf) | (refine ⟨_, hge _, ?_⟩; conv => whnf) | (refine ⟨_, _, same1 _, ?_⟩; conv => whnf) | (refine ⟨_, same1 _, ?_⟩; conv => whnf) | (refine br_d (by omega) ?_; conv => whnf) | (refine br_nd (by omega) ?_; conv => whnf) | (refine br_eq (by omega) ?_; conv => whnf) | (refine br_neq (by omega) ?_; conv => whnf) | (refine br_ne (by omega) ?_; conv => whnf) | (refine br_no (bo_eqn (by omega)) ?_; conv => whnf) | (refine Or.inl ?_; conv => whnf) | (refine okS_no (by kernel_rfl) ?_; conv => whnf) | (refine okS_yes (by kernel_rfl) ?_; conv => whnf) | (refine And_of (by (conv => whnf); (rw [getB_app0]); (conv => whnf)) ?_; conv => whnf) | (refine setB_app ?_; conv => whnf) | (refine setB_app0 ?_; conv => whnf) | (rw [getB_app]; conv => whnf) | (rw [getB_app0]; conv => whnf) | (refine addB_f13 ?_; conv => whnf) | (refine addB_f12 ?_; conv => whnf) | (refine addB_f11 ?_; conv => whnf) | (refine addB_f10 ?_; conv => whnf) | (refine addB_f9 ?_; conv => whnf) | (refine addB_f8 ?_; conv => whnf) | (refine addB_f7 ?_; conv => whnf) | (refine addB_f6 ?_; conv => whnf) | (refine addB_f5 ?_; conv => whnf) | (refine addB_f4 ?_; conv => whnf) | (refine addB_f3 ?_; conv => whnf) | (refine addB_f2 ?_; conv => whnf) | (refine addB_f1 ?_; conv => whnf) | (refine addB_f0 ?_; conv => whnf))
    rcases Nat.lt_trichotomy K H with p | p | p <;> rcases Nat.lt_trichotomy R H with r | r | r <;> by_cases hl : lim = 1
    all_goals
      try (have hd := hpk (by omega); subst hd)
      (conv => whnf); repeat (first | (refine br_yes (b1.trans (decide_eq_true (by omega))) ?_; conv => whnf) | (refine br_no (b1.trans (decide_eq_false (by omega))) ?_; conv => whnf) | (refine br_yes (b2.trans (decide_eq_true (by omega))) ?_; conv => whnf) | (refine br_no (b2.trans (decide_eq_false (by omega))) ?_; conv => whnf) | (refine br_yes (b3.trans (decide_eq_true (by omega))) ?_; conv => whnf) | (refine br_no (b3.trans (decide_eq_false (by omega))) ?_; conv => whnf) | (refine br_yes (b4.trans (decide_eq_true (by omega))) ?_; conv => whnf) | (refine br_no (b4.trans (decide_eq_false (by omega))) ?_; conv => whnf) | (refine br_yes q1 ?_; conv => whnf) | (refine br_yes (q2 hl) ?_; conv => whnf) | (rw [hP]; conv => whnf) | (refine ⟨_, _, same1 _, ?_⟩; conv => whnf) | (refine ⟨_, same1 _, ?_⟩; conv => whnf) | (refine br_no ((congrArg (fun b => !b) (b2.trans (decide_eq_true (by omega)))).trans rfl) ?_; conv => whnf) | (refine br_yes ((congrArg (fun b => !b) (b2.trans (decide_eq_false (by omega)))).trans rfl) ?_; conv => whnf) | (refine br_no ((congrArg (fun b => !b) (b4.trans (decide_eq_true (by omega)))).trans rfl) ?_; conv => whnf) | (refine br_yes ((congrArg (fun b => !b) (b4.trans (decide_eq_false (by omega)))).trans rfl) ?_; conv => whnf) | (refine br_no ((congrArg (fun b => !b) (b1.trans (decide_eq_true (by omega)))).trans rfl) ?_; conv => whnf) | (refine br_yes ((congrArg (fun b => !b) (b1.trans (decide_eq_false (by omega)))).trans rfl) ?_; conv => whnf) | (refine br_no ((congrArg (fun b => !b) (b3.trans (decide_eq_true (by omega)))).trans rfl) ?_; conv => whnf) | (refine br_yes ((congrArg (fun b => !b) (b3.trans (decide_eq_false (by omega)))).trans rfl) ?_; conv => whnf) | (refine br_d (by omega) ?_; conv => whnf) | (refine br_nd (by omega) ?_; conv => whnf) | (refine br_eq (by omega) ?_; conv => whnf) | (refine br_neq (by omega) ?_; conv => whnf) | (refine br_ne (by omega) ?_; conv => whnf) | (refine br_no (bo_eqn (by omega)) ?_; conv => whnf) | (refine Or.inl ?_; conv => whnf) | (refine okS_no (by kernel_rfl) ?_; conv => whnf) | (refine okS_yes (by kernel_rfl) ?_; conv => whnf) | (refine And_of (by (conv => whnf); (rw [getB_app0]); (conv => whnf)) ?_; conv => whnf) | (refine setB_app ?_; conv => whnf) | (refine setB_app0 ?_; conv => whnf) | (rw [getB_app]; conv => whnf) | (rw [getB_app0]; conv => whnf) | (refine addB_f13 ?_; conv => whnf) | (refine addB_f12 ?_; conv => whnf) | (refine addB_f11 ?_; conv => whnf) | (refine addB_f10 ?_; conv => whnf) | (refine addB_f9 ?_; conv => whnf) | (refine addB_f8 ?_; conv => whnf) | (refine addB_f7 ?_; conv => whnf) | (refine addB_f6 ?_; conv => whnf) | (refine addB_f5 ?_; conv => whnf) | (refine addB_f4 ?_; conv => whnf) | (refine addB_f3 ?_; conv => whnf) | (refine addB_f2 ?_; conv => whnf) | (refine addB_f1 ?_; conv => whnf) | (refine addB_f0 ?_; conv => whnf))
      exact ⟨rfl, ((u0.trans u1).trans uE).ex⟩
end Go.Proofs.YtajnkcoanapboaaGreatDoor
