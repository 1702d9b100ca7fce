import Derived.Test.YtgoljofmbidkfaaGreatDoorLt
/- StateLakes: its contract. No condition. -/
namespace Go.Proofs.YtgoljofmbidkfaaGreatDoor
open Go Go.Eng
set_option maxRecDepth 100000
set_option linter.unusedSimpArgs false
set_option linter.unusedVariables false

theorem fgt_swap {a b : Nat} (h : fgt (some a) (some b) = true) (ha : a < 18446744073709551616) (hb : b < 18446744073709551616) : flt (some b) (some a) = true := by
  rcases nan_or ha with hn | ⟨s, R, hR, rfl⟩
  · unfold fgt at h; rw [(nan_cmp hn _).1] at h; cases h
  · rcases nan_or hb with hn | ⟨t, Q, hQ, rfl⟩
    · unfold fgt at h; rw [(nan_cmp hn _).2] at h; cases h
    · rw [fgt_rk _ _ hR hQ] at h
      rw [flt_rk _ _ hQ hR]
      exact h
theorem fill_pos {b : Nat} {a : Int} {h : Nat} (hp : 0 < fillF b a h) : fgt (some h) (some b) = true := by
  unfold fillF at hp
  split at hp
  · rename_i k; exact k.1
  · omega
theorem quI_or (l : List Int) (z : Int) : quI l z = -1 ∨ 0 ≤ quI l z := by
  unfold quI fstI
  split
  · exact .inr (by omega)
  · exact .inl rfl
theorem rep_at {α : Type} {n i : Nat} {a d : α} (h : i < n) : (List.replicate n a).getD i d = a := by
  rw [List.getD_eq_getElem?_getD, List.getElem?_replicate, if_pos h]; rfl
theorem pz_rep (n : Nat) : ∀ k, pz (List.replicate n 0) 0 k = 0
  | 0 => rfl
  | k + 1 => by
    simp only [pz]
    rw [pz_rep n k, List.getD_eq_getElem?_getD, List.getElem?_replicate]
    split <;> rfl
theorem lake_sea {n : Nat} {Be : List Nat} {h : Nat} (hn : 1 ≤ n) (hn' : n ≤ 32) (hB : Be.length = 6 * (n * n)) (hb : ¬ 0 ≤ flI Be mxH) (hq : quI (tab Be.length (lakW n Be h)) 0 = -1) :
    SeaOk n Be (tab Be.length (lakW n Be h)) (List.replicate Be.length 0) (List.replicate (edges n).length 0) 0 0 := by
  have hz : betw 0 (fneg (some mxS)) (some mxS) = true := by decide
  refine ⟨hn, hn', hB, by rw [tab_len]; exact hB, by simp; exact hB, by simp, fun i hi => fstI_neg hb hi, ⟨by decide, by decide⟩, fun i hi => fstI_neg (show ¬ 0 ≤ fstI _ _ from fun k => by rw [show fstI _ _ = -1 from hq] at k; omega) hi, fun i hi => ?_, fun i hi => ?_, ⟨by decide, by decide⟩⟩
  · rw [List.length_replicate] at hi
    refine badQ_of ⟨?_, ?_⟩
    · rw [rep_at hi]; decide
    · rw [rep_at hi, pz_rep]; decide
  · rw [List.length_replicate] at hi
    refine badF_of ?_
    rw [rep_at hi]; exact hz
section
variable {M : List Blk} (hm : Top M) (hsc : scM M.length M = true) {j : Nat} {w : Bool} {Be : List Nat} (hj : getB M j = ⟨w, .flts Be⟩) (hs : Be.length ≤ 17592186044416) (x : Int) (h : Nat)
include hm hsc hj hs
/-- Both lakes and what their laws need, or none and the same fault. -/
theorem lake_err (e : Int) (he : e ≠ 0) (hA : COk Tryz.prog 3 40 [I x, .sl j 0 Be.length, F h] M (.tup [seaN, I e]) M) (hBr : COk Tryz.prog 3 41 [I x, .sl j 0 Be.length, F h] (M ++ [sBx nilS' nilS' nilS' nilS' 0 0]) (.tup [seaN, I e]) (M ++ [sBx nilS' nilS' nilS' nilS' 0 0])) :
    COk Tryz.prog 3 11 [I x, .sl j 0 Be.length, F h] M (Bo true) M := by
  have hlt : j < M.length := getB_lt hj rfl
  have haw := awake20_ok hm hsc
  by_cases hl : 131072 < Be.length
  · refine COk_quiet Tryz.f11 Tryz.func11 (by kernel_rfl) rfl ?_
    (conv => whnf); repeat ((first | refine ⟨_, _, haw, ?_⟩ | refine br_d (by omega) ?_); conv => whnf)
    exact ⟨rfl, [], by simp⟩
  · refine COk_quiet Tryz.f11 Tryz.func11 (by kernel_rfl) rfl ?_
    (conv => whnf); repeat ((first | refine ⟨_, _, haw, ?_⟩ | refine ⟨_, _, hA, ?_⟩ | refine ⟨_, _, hBr, ?_⟩ | refine ⟨_, _, rSame_nil _, ?_⟩ | refine br_no (bo_eqn rfl) ?_ | refine br_yes (bne_iff_ne.2 he) ?_ | refine br_nd (by omega) ?_ | refine setB_app ?_ | refine setB_app0 ?_ | rw [getB_app] | rw [getB_app0] | refine addB_f1 ?_ | refine addB_f0 ?_); conv => whnf)
    exact ⟨rfl, _, rfl⟩
end
section
variable {M : List Blk} (hm : Top M) (hsc : scM M.length M = true) {j : Nat} {w : Bool} {Be : List Nat} (hj : getB M j = ⟨w, .flts Be⟩) (hw : ∀ i, i < Be.length → inF (Be.getD i 0)) (hs : Be.length ≤ 17592186044416) (x : Int) (h : Nat) (hh : h < 18446744073709551616)
include hm hsc hj hw hs hh
set_option maxHeartbeats 0 in
theorem lakes20_ok : COk Tryz.prog 3 11 [I x, .sl j 0 Be.length, F h] M (Bo true) M := by
  have hlt : j < M.length := getB_lt hj rfl
  have u1 : Up M (M ++ ([sBx nilS' nilS' nilS' nilS' 0 0] : List Blk)) := Up.of hsc (by simp [scM, B.sc, scL, V.sc])
  have hj1 : getB (M ++ ([sBx nilS' nilS' nilS' nilS' 0 0] : List Blk)) j = ⟨w, .flts Be⟩ := getB_in hj rfl
  have hm1 := hm.up u1
  by_cases hx : 1 ≤ x ∧ x ≤ 32
  case neg => exact lake_err hm hsc hj hs x h 10 (by decide) (Lake_side hx h) (rLake_side hx h)
  obtain ⟨n, rfl⟩ : ∃ n : Nat, x = n := ⟨x.toNat, by omega⟩
  have hn : 1 ≤ n := by omega
  have hn' : n ≤ 32 := by omega
  by_cases hB : Be.length = 6 * (n * n)
  case neg => exact lake_err hm hsc hj hs n h 12 (by decide) (Lake_size hm hsc hj hw hs hn hn' hB h) (rLake_size hm1 u1.sc hj1 hw hs hn hn' hB h)
  by_cases hb : 0 ≤ flI Be mxH
  · exact lake_err hm hsc hj hs n h 13 (by decide) (Lake_bed hm hsc hj hw hs hn hn' hB hb h) (rLake_bed hm1 u1.sc hj1 hw hs hn hn' hB hb h)
  cases hhi : highB h with
  | false => exact lake_err hm hsc hj hs n h 1 (by decide) (Lake_high hm hsc hj hw hs hn hn' hB hb hhi) (rLake_high hm1 u1.sc hj1 hw hs hn hn' hB hb hhi)
  | true =>
    rcases quI_or (tab Be.length (lakW n Be h)) 0 with hq | hq
    case inr => exact lake_err hm hsc hj hs n h 14 (by decide) (Lake_water hm hsc hj hw hs hn hn' hB hb hhi hq) (rLake_water hm1 u1.sc hj1 hw hs hn hn' hB hb hhi hq)
    have haw := awake20_ok hm hsc
    have hsq : n * n ≤ 1024 := Nat.mul_le_mul hn' hn'
    have hlen := edges_len hn
    have hE : 2 * Be.length = (edges n).length := by omega
    obtain ⟨M1, a0, a1, a2, a3, hA, u1, S1⟩ := Lake_up hm hsc hj hw hs hn hn' hB hb hhi hq
    have v1 : Up M1 (M1 ++ [sBx (.sl a0 0 Be.length) (.sl a1 0 Be.length) (.sl a2 0 Be.length) (.sl a3 0 (edges n).length) 0 0]) := by
      have := sBx_up u1.sc S1 0 0
      unfold sV at this
      rwa [tab_len, List.length_replicate, List.length_replicate] at this
    have w1 := u1.trans v1
    have hj1 : getB (M1 ++ [sBx (.sl a0 0 Be.length) (.sl a1 0 Be.length) (.sl a2 0 Be.length) (.sl a3 0 (edges n).length) 0 0]) j = ⟨w, .flts Be⟩ := by obtain ⟨y, hy⟩ := w1.ex; rw [hy]; exact getB_in hj rfl
    obtain ⟨M2, b0, b1, b2, b3, hB2, u2, S2⟩ := rLake_up (hm.up w1) w1.sc hj1 hw hs hn hn' hB hb hhi hq
    rw [hE] at hB2 S2
    have v2 : Up M2 (M2 ++ [sBx (.sl b0 0 Be.length) (.sl b1 0 Be.length) (.sl b2 0 Be.length) (.sl b3 0 (edges n).length) 0 0]) := by
      have := sBx_up u2.sc S2 0 0
      unfold sV at this
      rwa [tab_len, List.length_replicate, List.length_replicate] at this
    have w2 := (w1.trans u2).trans v2
    have O1 := lake_sea (h := h) hn hn' hB hb hq
    have R1 := ((S1.up v1).up (u2.trans v2)).read
    have hS := rSame_ok w2.sc (hm.up w2).ng R1 (S2.up v2).read 0 0 0 0
    rw [sameB_self, tab_len, List.length_replicate, List.length_replicate] at hS
    have hC := Check_ok w2.sc (hm.up w2).ng R1 n 0 0
    rw [O1.chk, tab_len, List.length_replicate, List.length_replicate] at hC
    obtain ⟨b, M3, hnew, N, u3⟩ := new_up (hm.up w2) w2.sc n hn hn'
    have w3 := w2.trans u3
    have hm3 := hm.up w3
    have R3 := (((S1.up v1).up (u2.trans v2)).up u3).read
    have gs2 := box_in rfl (u2.trans v2)
    have gs20 := box_in0 rfl (u2.trans v2)
    have gs3 := box_in rfl ((u2.trans v2).trans u3)
    have gs30 := box_in0 rfl ((u2.trans v2).trans u3)
    have ga2 := box_in rfl u2
    have hj3 : getB M3 j = ⟨w, .flts Be⟩ := by obtain ⟨y, hy⟩ := w3.ex; rw [hy]; exact getB_in hj rfl
    have SB := SlF.whole hj3 hw hs
    have hgc := gcells_ok (N.more [])
    simp only [List.append_nil] at hgc
    by_cases hl : 131072 < Be.length
    · omega
    refine COk_quiet Tryz.f11 Tryz.func11 (by kernel_rfl) rfl ?_
    (conv => whnf); repeat ((first | refine ⟨_, _, haw, ?_⟩ | refine ⟨_, _, hA, ?_⟩ | refine ⟨_, _, hB2, ?_⟩ | refine ⟨_, _, hS, ?_⟩ | refine ⟨_, _, hC, ?_⟩ | refine ⟨_, _, hnew, ?_⟩ | rw [gs20] | rw [gs30] | rw [ga2] | refine br_nd (by omega) ?_ | refine setB_app0 ?_ | rw [getB_app0] | refine addB_f0 ?_); conv => whnf)
    have hnl := N.lt
    have hl1 := u1.len
    have hl2 := w1.len
    have hl3 := (u2.trans v2).len
    have hl4 := u3.len
    have ha := fun c hc => area_ok N c hc
    simp only [List.length_append, List.length_cons, List.length_nil] at hl2 hl3 hl4
    refine loop_to (fun k => [I n, .sl j 0 Be.length, F h, .any, .any, .any, .any, .any, .ptr M1.length 0, .any, .any, .any, .any, .any, .ptr (b + 1) 0, .any, I k, .any, .any, .any, .any, .any, .any, .any, .any, .any, .any, .any, .any, .any, .any, .any, .any, .any, .any, .any, .any, .any, .any, .any, .any, .any, .any, .any, .any, .any, .any, .any, .any, .any, .any, .any, .any, .any, .any, .any, .any, .any, .any, .any, .any, .any, .any, .any, .any, .any, .any, .any, .any, .any, .any, .any, .any, .any, .any, .any, .any, .any, .any, .any, .any, .any, .any, .any, .any, .any, .any, .any, .any, .any, .any, .any, .any, .any, .any, .any, .any, .any, .any, .any, .any, .any, .any, .any, .any, .any, .any, .any, .any, .any, .any, .any, .any, .any, .any, .any, .any, .any, .any, .any, .any, .any, .any, .any, .any, .any, .any, .any]) (fun _ => M3) 0 Be.length (Nat.zero_le _) ?_ ?_ ?_
    · refine Fg.of [] ?_ (by rw [List.append_nil]) (by simp) (by first | (simp [scL, V.sc]; done) | (simp [scL, V.sc]; omega)) u3.sc
      conv => whnf
      exact ⟨rfl, rfl, rfl, rfl, rfl, rfl, rfl⟩
    · intro c _ hc
      have hc6 : c < 6 * (n * n) := by omega
      have e1 : (tab Be.length (lakW n Be h)).getD c 0 = lakW n Be h c := tab_get hc
      have e2 : (List.replicate Be.length (0 : Int)).getD c 0 = 0 := rep_at hc
      have hF := fun m => fill_ok (Be.getD c 0) (areaC n c) h m
      have hv : fillF (Be.getD c 0) (areaC n c) h = lakW n Be h c := rfl
      rw [hv] at hF
      by_cases hp : 0 < lakW n Be h c
      · have hf := fgt_swap (fill_pos hp) hh (hw c hc)
        (conv => whnf); repeat ((first | refine ⟨_, _, hgc, ?_⟩ | refine ⟨_, ha _ hc6, ?_⟩ | refine ⟨_, hF _, ?_⟩ | rw [gs30] | refine SlF.at SB (i := c) hc rfl ?_ | refine SlI.at R3.s1 (i := c) (by rw [tab_len]; exact hc) rfl ?_ | refine SlI.at R3.s2 (i := c) (by rw [List.length_replicate]; exact hc) rfl ?_ | refine br_no (bne_eq_false_iff_eq.2 e1) ?_ | refine br_yes (decide_eq_true (show (tab Be.length (lakW n Be h)).getD c 0 > 0 by rw [e1]; exact hp)) ?_ | refine br_no (congrArg not hf) ?_ | refine br_no (bne_eq_false_iff_eq.2 e2) ?_ | refine br_d (by omega) ?_); conv => whnf)
        refine Fg.of [] ?_ (by rw [List.append_nil]) (by simp) (by first | (simp [scL, V.sc]; done) | (simp [scL, V.sc]; omega)) u3.sc
        conv => whnf
        exact ⟨rfl, rfl, rfl, rfl, rfl, wrapKL (by omega), rfl⟩
      · (conv => whnf); repeat ((first | refine ⟨_, _, hgc, ?_⟩ | refine ⟨_, ha _ hc6, ?_⟩ | refine ⟨_, hF _, ?_⟩ | rw [gs30] | refine SlF.at SB (i := c) hc rfl ?_ | refine SlI.at R3.s1 (i := c) (by rw [tab_len]; exact hc) rfl ?_ | refine SlI.at R3.s2 (i := c) (by rw [List.length_replicate]; exact hc) rfl ?_ | refine br_no (bne_eq_false_iff_eq.2 e1) ?_ | refine br_no (decide_eq_false (show ¬ (tab Be.length (lakW n Be h)).getD c 0 > 0 by rw [e1]; exact hp)) ?_ | refine br_no (bne_eq_false_iff_eq.2 e2) ?_ | refine br_d (by omega) ?_); conv => whnf)
        refine Fg.of [] ?_ (by rw [List.append_nil]) (by simp) (by first | (simp [scL, V.sc]; done) | (simp [scL, V.sc]; omega)) u3.sc
        conv => whnf
        exact ⟨rfl, rfl, rfl, rfl, rfl, wrapKL (by omega), rfl⟩
    · (conv => whnf); repeat ((first | refine ⟨_, _, hgc, ?_⟩ | refine br_nd (by omega) ?_); conv => whnf)
      exact ⟨rfl, w3.ex⟩
end
end Go.Proofs.YtgoljofmbidkfaaGreatDoor
