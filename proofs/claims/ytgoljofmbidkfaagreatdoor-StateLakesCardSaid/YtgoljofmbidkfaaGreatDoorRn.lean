import Derived.Test.YtgoljofmbidkfaaGreatDoorR5
import Derived.Test.YtgoljofmbidkfaaGreatDoorJ
import Derived.Test.YtgoljofmbidkfaaGreatDoorLv
/- The reference's net: New, and what it leaves. No condition. -/
namespace Go.Proofs.YtgoljofmbidkfaaGreatDoor
open Go Go.Eng
set_option maxRecDepth 100000
set_option linter.unusedSimpArgs false
set_option linter.unusedVariables false

theorem rbeside_c {n c s : Nat} (hn : 1 ≤ n) (hn' : n ≤ 32) (h : c < 6 * (n * n)) (hs : s < 4) (x : List Blk) :
    COk Tryz.prog 3 57 [I n, I c, I s] (GG x) (.tup [I (nbC n c s).1, I (nbC n c s).2]) (GG x) := by
  obtain ⟨h0, h1, h2, h3⟩ := cell_parts hn h
  have := rbeside_in n (c / (n * n)) (c % n) (c / n % n) s hn hn' h1 h2 h3 hs x
  rwa [← h0] at this
/-- The table of the edges' numbers by cells and sides. -/
def arF (N : Nat) (f : Int → Int → Option Int) : List Int := tab (4 * N) fun j => (f ((j / 4 : Nat) : Int) ((j % 4 : Nat) : Int)).getD 0
theorem arF_len (N : Nat) (f : Int → Int → Option Int) : (arF N f).length = 4 * N := tab_len _ _
theorem arF_0 (N : Nat) : arF N (fun _ _ => none) = List.replicate (4 * N * 1) 0 := by
  rw [pre_0 (4 * N) (fun _ => (0 : Int)) 0]
  unfold arF
  exact tab_congr fun c hc => by simp [preT]
theorem arF_set {N c s : Nat} (hc : c < N) (hs : s < 4) (f : Int → Int → Option Int) (k : Int) : (arF N f).set (0 + (4 * c + s) * 1) k = arF N (updM f c s k) := by
  unfold arF
  rw [tab_set]
  refine tab_congr fun j hj => ?_
  unfold updM
  by_cases h : j = 0 + (4 * c + s) * 1
  · rw [if_pos h, if_pos ⟨by omega, by omega⟩]; rfl
  · rw [if_neg h, if_neg (by omega)]
def rgrC (n N : Nat) (e : V) : Blk := ⟨true, .cells [I n, e, .sl 3 0 (4 * N)]⟩
def rmem (n N : Nat) (q : St) (g5 : Blk) : List Blk := GG [⟨true, .ints .i64 (arF N q.f)⟩, rgrC n N (.gs 6 (q.k - 1) 4 q.k), g5, edC q]
def rmem0 (n N : Nat) : List Blk := GG [⟨true, .ints .i64 (arF N fun _ _ => none)⟩, rgrC n N nilS]
theorem sc_rmem (n N : Nat) (q : St) (g5 : Blk) (h5 : g5.b.sc 7 = true) : scM (rmem n N q g5).length (rmem n N q g5) = true := by
  show (_ && (_ && (_ && (_ && (_ && (g5.b.sc 7 && _)))))) = true
  rw [h5]
  rfl
def g5C (n : Nat) : Blk := ⟨true, .cells [I (0 : Nat), I (0 : Nat), I (nbC n 0 0).1, I (nbC n 0 0).2]⟩
theorem stp_on {n c s : Nat} {q : St} (h : c < (nbC n c s).1) : stp n c s q = ⟨q.k + 1, q.l ++ [(c : Int), (s : Int), ((nbC n c s).1 : Int), ((nbC n c s).2 : Int)], updM (updM q.f c s q.k) (nbC n c s).1 (nbC n c s).2 q.k⟩ := if_neg (by omega)
theorem stp_off {n c s : Nat} {q : St} (h : (nbC n c s).1 < c) : stp n c s q = q := if_pos h
set_option maxHeartbeats 0 in
theorem rnew_raw (n : Nat) (hn : 1 ≤ n) (hn' : n ≤ 32) :
    COk Tryz.prog 3 16 [I n] (GG []) (.tup [.ptr 4 0, I 0]) (rmem n (6 * (n * n)) (edq n (6 * (n * n))) (g5C n)) := by
  have hN : 6 ≤ 6 * (n * n) ∧ 6 * (n * n) ≤ 6144 := by
    have h1 := Nat.mul_pos hn hn
    have h2 : n * n ≤ 32 * 32 := Nat.mul_le_mul hn' hn'
    omega
  have hce : ∀ m, COk Tryz.prog 3 56 [I n] m (I (6 * (n * n) : Nat)) m := fun m => by
    have := rcells_ok n m
    rwa [show cellsI n = ((6 * (n * n) : Nat) : Int) by rw [cellsI, if_pos ⟨by omega, by omega⟩]; simp] at this
  have c3 : Tryz.prog.cellsOf 3 = 1 := by kernel_rfl
  refine COk_of_ev Tryz.f16 Tryz.func16 (by kernel_rfl) (by show 3 ≤ 7; omega) rfl (.inr (sc_rmem _ _ _ _ rfl)) ?_
  generalize hNe : 6 * (n * n) = N at *
  have w4 : IntKind.i64.wrap (4 * (N : Int)) = ((4 * N : Nat) : Int) := by rw [wrap_id (by omega) (by omega)]; omega
  conv => whnf
  refine ⟨_, _, hce _, ?_⟩
  conv => whnf
  refine br_neq (by omega) ?_
  conv => whnf
  refine br_d ⟨by omega, by omega, by omega, (by show (8 : Int) * _ ≤ 2 ^ 48; omega)⟩ ?_
  rw [w4]
  (conv => whnf); repeat (refine Or.inl ?_; conv => whnf)
  rw [c3]
  refine loop_to (fun c => [I n, .any, .any, .any, I N, .ptr 4 0, I c, .any, .any, .any, .any, .any, .any, .any, .any, .any, .any, .any, .any, .any, .any, .any, .any, .any, .any, .any, .any, .any, .any, .any, .any, .any, .any, .any, .any, .any, .any, .any, .any, .any, .any, .any, .any, .any, .any, .any, .any, .any, .any, .any, .any, .any, .any, .any, .any, .any, .any, .any, .any, .any, .any, .any, .any, .any, .any, .any, .any, .any, .any, .any, .any, .any, .any, .any, .any, .any, .any, .any, .any, .any, .any, .any]) (fun c => if c = 0 then rmem0 n N else rmem n N (edq n c) (g5C n)) 0 N (by omega) ?_ ?_ ?_
  · rw [if_pos rfl]
    refine Fg.of [] ?_ (by rw [List.append_nil]; unfold rmem0; rw [arF_0]; rfl) rfl rfl rfl
    conv => whnf
    exact ⟨rfl, rfl, rfl, rfl, rfl⟩
  · intro c _ hk
    have hc : c < 6 * (n * n) := by omega
    by_cases h0 : c = 0
    · rw [if_pos h0, if_neg (by omega)]
      have hlt : c < (nbC n c 0).1 := by have := (nbC_ne (s := 0) hn hc (by decide)).1; omega
      have hb := rbeside_c (s := 0) hn hn' hc (by decide)
      obtain ⟨hd1, hd2⟩ := nbC_lt (s := 0) hn hc
      have ed1 : stps n c 1 q0 = ⟨0 + 1, [(c : Int), ((0 : Nat) : Int), ((nbC n c 0).1 : Int), ((nbC n c 0).2 : Int)], updM (updM (fun _ _ => none) c (0 : Nat) (0 : Nat)) (nbC n c 0).1 (nbC n c 0).2 (0 : Nat)⟩ := stp_on hlt
      have g5e : g5C n = ⟨true, .cells [I c, I (0 : Nat), I (nbC n c 0).1, I (nbC n c 0).2]⟩ := by subst h0; rfl
      have hst1 : ∀ s, (stps n c (s + 1) q0).l.length = 4 * (stps n c (s + 1) q0).k ∧ 1 ≤ (stps n c (s + 1) q0).k ∧ (stps n c (s + 1) q0).k ≤ 1 + s := by
        intro s
        induction s with
        | zero =>
          rw [ed1]
          exact ⟨rfl, Nat.le_refl _, Nat.le_refl _⟩
        | succ s ih =>
          obtain ⟨h1, h2, h3⟩ := ih
          obtain ⟨k1, k2, k3⟩ := stp_k n c (s + 1) (stps n c (s + 1) q0) h1
          exact ⟨k1, by show 1 ≤ (stp n c (s + 1) (stps n c (s + 1) q0)).k; omega, by show (stp n c (s + 1) (stps n c (s + 1) q0)).k ≤ _; omega⟩
      have w1 : IntKind.i64.wrap (IntKind.i64.wrap (4 * (c : Int)) + 0) = ((4 * c + 0 : Nat) : Int) := by rw [wrap_id (n := 4 * (c : Int)) (by omega) (by omega), wrap_id (by omega) (by omega)]; omega
      have b1 : (sameKind IntKind.i64 IntKind.i64 && (0 + ((4 * c + 0 : Nat) : Int).toNat * Tryz.prog.cellsOf 3).blt (arF N fun _ _ => none).length) = true := by
        rw [c3, arF_len]; show Nat.blt (0 + (4 * c + 0) * 1) (4 * N) = true; first | (simp; done) | (simp; omega)
      have es1 : (arF N fun _ _ => none).set (0 + ((4 * c + 0 : Nat) : Int).toNat * Tryz.prog.cellsOf 3) 0 = arF N (updM (fun _ _ => none) c (0 : Nat) (0 : Nat)) := by rw [c3]; exact arF_set (by omega) (by decide) _ _
      (conv => whnf); repeat (refine br_d (by omega) ?_; conv => whnf)
      refine lr ?_
      (conv => whnf); repeat ((first | refine br_d (by omega) ?_ | refine br_nd (by omega) ?_ | refine br_eq (by omega) ?_ | refine br_neq (by omega) ?_ | refine br_ne (by omega) ?_ | refine br_no (bo_eqn (by omega)) ?_ | refine Or.inl ?_ | refine okS_no (by kernel_rfl) ?_ | refine okS_yes (by kernel_rfl) ?_ | refine And_of (by (conv => whnf); (rw [getB_app0]); (conv => whnf)) ?_ | refine setB_app ?_ | refine setB_app0 ?_ | rw [getB_app] | rw [getB_app0] | refine addB_f13 ?_ | refine addB_f12 ?_ | refine addB_f11 ?_ | refine addB_f10 ?_ | refine addB_f9 ?_ | refine addB_f8 ?_ | refine addB_f7 ?_ | refine addB_f6 ?_ | refine addB_f5 ?_ | refine addB_f4 ?_ | refine addB_f3 ?_ | refine addB_f2 ?_ | refine addB_f1 ?_ | refine addB_f0 ?_); conv => whnf)
      refine ⟨_, _, hb _, ?_⟩
      generalize hd9 : (nbC n c 0).1 = d at *
      generalize hd8 : (nbC n c 0).2 = bk at *
      have w2 : IntKind.i64.wrap (IntKind.i64.wrap (4 * (d : Int)) + bk) = ((4 * d + bk : Nat) : Int) := by first | (simp (disch := omega) only [wrap_id]; done) | (simp (disch := omega) only [wrap_id]; omega)
      have b2 : (sameKind IntKind.i64 IntKind.i64 && (0 + ((4 * d + bk : Nat) : Int).toNat * Tryz.prog.cellsOf 3).blt (arF N (updM (fun _ _ => none) c (0 : Nat) (0 : Nat))).length) = true := by
        rw [c3, arF_len]; show Nat.blt (0 + (4 * d + bk) * 1) (4 * N) = true; first | (simp; done) | (simp; omega)
      have es2 : (arF N (updM (fun _ _ => none) c (0 : Nat) (0 : Nat))).set (0 + ((4 * d + bk : Nat) : Int).toNat * Tryz.prog.cellsOf 3) 0 = arF N (updM (updM (fun _ _ => none) c (0 : Nat) (0 : Nat)) d bk (0 : Nat)) := by rw [c3]; exact arF_set (by omega) (by omega) _ _
      (conv => whnf); repeat (refine br_d (by omega) ?_; conv => whnf)
      rw [w1]
      (conv => whnf); repeat ((first | refine br_yes b1 ?_ | refine br_d (by omega) ?_); conv => whnf)
      rw [es1]
      (conv => whnf); repeat ((first | refine br_d (by omega) ?_ | refine br_nd (by omega) ?_ | refine br_eq (by omega) ?_ | refine br_neq (by omega) ?_ | refine br_ne (by omega) ?_ | refine br_no (bo_eqn (by omega)) ?_ | refine Or.inl ?_ | refine okS_no (by kernel_rfl) ?_ | refine okS_yes (by kernel_rfl) ?_ | refine And_of (by (conv => whnf); (rw [getB_app0]); (conv => whnf)) ?_ | refine setB_app ?_ | refine setB_app0 ?_ | rw [getB_app] | rw [getB_app0] | refine addB_f13 ?_ | refine addB_f12 ?_ | refine addB_f11 ?_ | refine addB_f10 ?_ | refine addB_f9 ?_ | refine addB_f8 ?_ | refine addB_f7 ?_ | refine addB_f6 ?_ | refine addB_f5 ?_ | refine addB_f4 ?_ | refine addB_f3 ?_ | refine addB_f2 ?_ | refine addB_f1 ?_ | refine addB_f0 ?_); conv => whnf)
      rw [w2]
      (conv => whnf); repeat (refine br_yes b2 ?_; conv => whnf)
      rw [es2]
      (conv => whnf); repeat ((first | refine br_d (by omega) ?_ | refine br_nd (by omega) ?_ | refine br_eq (by omega) ?_ | refine br_neq (by omega) ?_ | refine br_ne (by omega) ?_ | refine br_no (bo_eqn (by omega)) ?_ | refine Or.inl ?_ | refine okS_no (by kernel_rfl) ?_ | refine okS_yes (by kernel_rfl) ?_ | refine And_of (by (conv => whnf); (rw [getB_app0]); (conv => whnf)) ?_ | refine setB_app ?_ | refine setB_app0 ?_ | rw [getB_app] | rw [getB_app0] | refine addB_f13 ?_ | refine addB_f12 ?_ | refine addB_f11 ?_ | refine addB_f10 ?_ | refine addB_f9 ?_ | refine addB_f8 ?_ | refine addB_f7 ?_ | refine addB_f6 ?_ | refine addB_f5 ?_ | refine addB_f4 ?_ | refine addB_f3 ?_ | refine addB_f2 ?_ | refine addB_f1 ?_ | refine addB_f0 ?_); conv => whnf)
      refine ⟨⟨by decide, by decide⟩, ?_⟩
      conv => whnf
      refine loop_to (fun s => [I n, .any, .any, .any, I N, .ptr 4 0, I c, I s, .any, .any, .any, .any, .any, .any, .any, .any, .any, .any, .any, .any, .any, .any, .any, .any, .any, .any, .any, .any, .any, .any, .any, .any, .any, .any, .any, .any, .any, .any, .any, .any, .any, .any, .any, .any, .any, .any, .any, .any, .any, .any, .any, .any, .any, .any, .any, .any, .any, .any, .any, .any, .any, .any, .any, .any, .any, .any, .any, .any, .any, .any, .any, .any, .any, .any, .any, .any, .any, .any, .any, .any, .any, .any]) (fun s => rmem n N (stps n c s q0) (g5C n)) 1 4 (by decide) ?_ ?_ ?_
      · rw [ed1, g5e]
        refine Fg.of [] ?_ (by first | (rw [List.append_nil]; done) | (rw [List.append_nil]; rfl)) rfl rfl (sc_rmem n N _ (g5C n) rfl)
        conv => whnf
        exact ⟨rfl, rfl, rfl, rfl, wrapKL (k := 0) (by decide), rfl⟩
      · intro s hs1 hs
        have hst : ∀ t : Nat, t < 4 → (stps n c s q0).l.length = 4 * (stps n c s q0).k ∧ 1 ≤ (stps n c s q0).k ∧ (stps n c s q0).k ≤ 100000 := fun _ _ => by
          have := hst1 (s - 1)
          rw [show s - 1 + 1 = s by omega] at this
          exact ⟨this.1, this.2.1, by omega⟩
        clear hb b1 b2 es1 es2 w1 w2 hd1 hd2 hlt ed1 hst1 g5e hd9 hd8
        obtain ⟨h1, h2, h3⟩ := hst s hs
        generalize hst9 : stps n c s q0 = st at h1 h2 h3
        rw [show stps n c (s + 1) _ = stp n c s st by rw [← hst9]; rfl]
        obtain ⟨k, l, f⟩ := st
        obtain ⟨v, rfl⟩ : ∃ v, k = v + 1 := ⟨k - 1, by simp only at h2; omega⟩
        simp only at h1 h2 h3
        have hb := rbeside_c hn hn' hc hs
        have hne := (nbC_ne hn hc hs).1
        obtain ⟨hd1, hd2⟩ := nbC_lt (s := s) hn hc
        rcases Nat.lt_or_ge c (nbC n c s).1 with hlt | hge
        · rw [stp_on hlt]
          generalize (nbC n c s).1 = d at *
          generalize (nbC n c s).2 = bk at *
          have w1 : IntKind.i64.wrap (IntKind.i64.wrap (4 * (c : Int)) + s) = ((4 * c + s : Nat) : Int) := by first | (simp (disch := omega) only [wrap_id]; done) | (simp (disch := omega) only [wrap_id]; omega)
          have w2 : IntKind.i64.wrap (IntKind.i64.wrap (4 * (d : Int)) + bk) = ((4 * d + bk : Nat) : Int) := by first | (simp (disch := omega) only [wrap_id]; done) | (simp (disch := omega) only [wrap_id]; omega)
          (conv => whnf); repeat ((first | refine ⟨_, _, hb _, ?_⟩ | refine br_d (by omega) ?_); conv => whnf)
          have b1 : (sameKind IntKind.i64 IntKind.i64 && (0 + ((4 * c + s : Nat) : Int).toNat * Tryz.prog.cellsOf 3).blt (arF N f).length) = true := by
            rw [c3, arF_len]; show Nat.blt (0 + (4 * c + s) * 1) (4 * N) = true; first | (simp; done) | (simp; omega)
          have es1 : (arF N f).set (0 + ((4 * c + s : Nat) : Int).toNat * Tryz.prog.cellsOf 3) ((v + 1 : Nat) : Int) = arF N (updM f c s ((v + 1 : Nat) : Int)) := by rw [c3]; exact arF_set (by omega) hs f _
          have b2 : (sameKind IntKind.i64 IntKind.i64 && (0 + ((4 * d + bk : Nat) : Int).toNat * Tryz.prog.cellsOf 3).blt (arF N (updM f c s ((v + 1 : Nat) : Int))).length) = true := by
            rw [c3, arF_len]; show Nat.blt (0 + (4 * d + bk) * 1) (4 * N) = true; first | (simp; done) | (simp; omega)
          have es2 : (arF N (updM f c s ((v + 1 : Nat) : Int))).set (0 + ((4 * d + bk : Nat) : Int).toNat * Tryz.prog.cellsOf 3) ((v + 1 : Nat) : Int) = arF N (updM (updM f c s ((v + 1 : Nat) : Int)) d bk ((v + 1 : Nat) : Int)) := by rw [c3]; exact arF_set (by omega) (by omega) _ _
          rw [w1]
          (conv => whnf); repeat ((first | refine br_yes b1 ?_ | refine br_d (by omega) ?_); conv => whnf)
          rw [es1]
          (conv => whnf); repeat ((first | refine br_d (by omega) ?_ | refine br_nd (by omega) ?_ | refine br_eq (by omega) ?_ | refine br_neq (by omega) ?_ | refine br_ne (by omega) ?_ | refine br_no (bo_eqn (by omega)) ?_ | refine Or.inl ?_ | refine okS_no (by kernel_rfl) ?_ | refine okS_yes (by kernel_rfl) ?_ | refine And_of (by (conv => whnf); (rw [getB_app0]); (conv => whnf)) ?_ | refine setB_app ?_ | refine setB_app0 ?_ | rw [getB_app] | rw [getB_app0] | refine addB_f13 ?_ | refine addB_f12 ?_ | refine addB_f11 ?_ | refine addB_f10 ?_ | refine addB_f9 ?_ | refine addB_f8 ?_ | refine addB_f7 ?_ | refine addB_f6 ?_ | refine addB_f5 ?_ | refine addB_f4 ?_ | refine addB_f3 ?_ | refine addB_f2 ?_ | refine addB_f1 ?_ | refine addB_f0 ?_); conv => whnf)
          rw [w2]
          (conv => whnf); repeat (refine br_yes b2 ?_; conv => whnf)
          rw [es2]
          (conv => whnf); repeat ((first | refine br_d (by omega) ?_ | refine br_nd (by omega) ?_ | refine br_eq (by omega) ?_ | refine br_neq (by omega) ?_ | refine br_ne (by omega) ?_ | refine br_no (bo_eqn (by omega)) ?_ | refine Or.inl ?_ | refine okS_no (by kernel_rfl) ?_ | refine okS_yes (by kernel_rfl) ?_ | refine And_of (by (conv => whnf); (rw [getB_app0]); (conv => whnf)) ?_ | refine setB_app ?_ | refine setB_app0 ?_ | rw [getB_app] | rw [getB_app0] | refine addB_f13 ?_ | refine addB_f12 ?_ | refine addB_f11 ?_ | refine addB_f10 ?_ | refine addB_f9 ?_ | refine addB_f8 ?_ | refine addB_f7 ?_ | refine addB_f6 ?_ | refine addB_f5 ?_ | refine addB_f4 ?_ | refine addB_f3 ?_ | refine addB_f2 ?_ | refine addB_f1 ?_ | refine addB_f0 ?_); conv => whnf)
          refine ⟨⟨rfl, rfl, (by show l.length = (v + 1) * 4; omega), (by show (v + 1 + 1) * 32 ≤ _; omega)⟩, ?_⟩
          conv => whnf
          refine Fg.of [_] ?_ rfl rfl rfl (sc_rmem n N _ (g5C n) rfl)
          conv => whnf
          exact ⟨rfl, rfl, rfl, rfl, wrapKL (by omega), rfl⟩
        · exfalso; omega
      · rw [show stps n c 4 q0 = edq n (c + 1) by subst h0; rfl]
        (conv => whnf); repeat ((first | refine br_d (by omega) ?_ | refine br_nd (by omega) ?_ | refine br_eq (by omega) ?_ | refine br_neq (by omega) ?_ | refine br_ne (by omega) ?_ | refine br_no (bo_eqn (by omega)) ?_ | refine Or.inl ?_ | refine okS_no (by kernel_rfl) ?_ | refine okS_yes (by kernel_rfl) ?_ | refine And_of (by (conv => whnf); (rw [getB_app0]); (conv => whnf)) ?_ | refine setB_app ?_ | refine setB_app0 ?_ | rw [getB_app] | rw [getB_app0] | refine addB_f13 ?_ | refine addB_f12 ?_ | refine addB_f11 ?_ | refine addB_f10 ?_ | refine addB_f9 ?_ | refine addB_f8 ?_ | refine addB_f7 ?_ | refine addB_f6 ?_ | refine addB_f5 ?_ | refine addB_f4 ?_ | refine addB_f3 ?_ | refine addB_f2 ?_ | refine addB_f1 ?_ | refine addB_f0 ?_); conv => whnf)
        refine Fg.of [] ?_ (by first | (rw [List.append_nil]; done) | (rw [List.append_nil]; rfl)) rfl rfl (sc_rmem n N _ (g5C n) rfl)
        conv => whnf
        exact ⟨rfl, rfl, rfl, wrapKL (by omega), rfl⟩
    · rw [if_neg h0, if_neg (by omega)]
      have hq := edq_bound n c
      have hq1 := edq_pos n c (by omega)
      have hst : ∀ s, s < 4 → (stps n c s (edq n c)).l.length = 4 * (stps n c s (edq n c)).k ∧ 1 ≤ (stps n c s (edq n c)).k ∧ (stps n c s (edq n c)).k ≤ 100000 := fun s hs => by
        obtain ⟨x1, x2, x3⟩ := stps_k n c (edq n c) hq.1 s
        exact ⟨x1, by omega, by omega⟩
      (conv => whnf); repeat (refine br_d (by omega) ?_; conv => whnf)
      refine loop_to (fun s => [I n, .any, .any, .any, I N, .ptr 4 0, I c, I s, .any, .any, .any, .any, .any, .any, .any, .any, .any, .any, .any, .any, .any, .any, .any, .any, .any, .any, .any, .any, .any, .any, .any, .any, .any, .any, .any, .any, .any, .any, .any, .any, .any, .any, .any, .any, .any, .any, .any, .any, .any, .any, .any, .any, .any, .any, .any, .any, .any, .any, .any, .any, .any, .any, .any, .any, .any, .any, .any, .any, .any, .any, .any, .any, .any, .any, .any, .any, .any, .any, .any, .any, .any, .any]) (fun s => rmem n N (stps n c s (edq n c)) (g5C n)) 0 4 (by decide) ?_ ?_ ?_
      · refine Fg.of [] ?_ (by first | (rw [List.append_nil]; done) | (rw [List.append_nil]; rfl)) rfl rfl (sc_rmem n N _ (g5C n) rfl)
        conv => whnf
        exact ⟨rfl, rfl, rfl, rfl, rfl, rfl⟩
      · intro s _ hs
        obtain ⟨h1, h2, h3⟩ := hst s hs
        generalize hst9 : stps n c s (edq n c) = st at h1 h2 h3
        rw [show stps n c (s + 1) _ = stp n c s st by rw [← hst9]; rfl]
        obtain ⟨k, l, f⟩ := st
        obtain ⟨v, rfl⟩ : ∃ v, k = v + 1 := ⟨k - 1, by simp only at h2; omega⟩
        simp only at h1 h2 h3
        have hb := rbeside_c hn hn' hc hs
        have hne := (nbC_ne hn hc hs).1
        obtain ⟨hd1, hd2⟩ := nbC_lt (s := s) hn hc
        rcases Nat.lt_or_ge c (nbC n c s).1 with hlt | hge
        · rw [stp_on hlt]
          generalize (nbC n c s).1 = d at *
          generalize (nbC n c s).2 = bk at *
          have w1 : IntKind.i64.wrap (IntKind.i64.wrap (4 * (c : Int)) + s) = ((4 * c + s : Nat) : Int) := by first | (simp (disch := omega) only [wrap_id]; done) | (simp (disch := omega) only [wrap_id]; omega)
          have w2 : IntKind.i64.wrap (IntKind.i64.wrap (4 * (d : Int)) + bk) = ((4 * d + bk : Nat) : Int) := by first | (simp (disch := omega) only [wrap_id]; done) | (simp (disch := omega) only [wrap_id]; omega)
          (conv => whnf); repeat ((first | refine ⟨_, _, hb _, ?_⟩ | refine br_d (by omega) ?_); conv => whnf)
          have b1 : (sameKind IntKind.i64 IntKind.i64 && (0 + ((4 * c + s : Nat) : Int).toNat * Tryz.prog.cellsOf 3).blt (arF N f).length) = true := by
            rw [c3, arF_len]; show Nat.blt (0 + (4 * c + s) * 1) (4 * N) = true; first | (simp; done) | (simp; omega)
          have es1 : (arF N f).set (0 + ((4 * c + s : Nat) : Int).toNat * Tryz.prog.cellsOf 3) ((v + 1 : Nat) : Int) = arF N (updM f c s ((v + 1 : Nat) : Int)) := by rw [c3]; exact arF_set (by omega) hs f _
          have b2 : (sameKind IntKind.i64 IntKind.i64 && (0 + ((4 * d + bk : Nat) : Int).toNat * Tryz.prog.cellsOf 3).blt (arF N (updM f c s ((v + 1 : Nat) : Int))).length) = true := by
            rw [c3, arF_len]; show Nat.blt (0 + (4 * d + bk) * 1) (4 * N) = true; first | (simp; done) | (simp; omega)
          have es2 : (arF N (updM f c s ((v + 1 : Nat) : Int))).set (0 + ((4 * d + bk : Nat) : Int).toNat * Tryz.prog.cellsOf 3) ((v + 1 : Nat) : Int) = arF N (updM (updM f c s ((v + 1 : Nat) : Int)) d bk ((v + 1 : Nat) : Int)) := by rw [c3]; exact arF_set (by omega) (by omega) _ _
          rw [w1]
          (conv => whnf); repeat ((first | refine br_yes b1 ?_ | refine br_d (by omega) ?_); conv => whnf)
          rw [es1]
          (conv => whnf); repeat ((first | refine br_d (by omega) ?_ | refine br_nd (by omega) ?_ | refine br_eq (by omega) ?_ | refine br_neq (by omega) ?_ | refine br_ne (by omega) ?_ | refine br_no (bo_eqn (by omega)) ?_ | refine Or.inl ?_ | refine okS_no (by kernel_rfl) ?_ | refine okS_yes (by kernel_rfl) ?_ | refine And_of (by (conv => whnf); (rw [getB_app0]); (conv => whnf)) ?_ | refine setB_app ?_ | refine setB_app0 ?_ | rw [getB_app] | rw [getB_app0] | refine addB_f13 ?_ | refine addB_f12 ?_ | refine addB_f11 ?_ | refine addB_f10 ?_ | refine addB_f9 ?_ | refine addB_f8 ?_ | refine addB_f7 ?_ | refine addB_f6 ?_ | refine addB_f5 ?_ | refine addB_f4 ?_ | refine addB_f3 ?_ | refine addB_f2 ?_ | refine addB_f1 ?_ | refine addB_f0 ?_); conv => whnf)
          rw [w2]
          (conv => whnf); repeat (refine br_yes b2 ?_; conv => whnf)
          rw [es2]
          (conv => whnf); repeat ((first | refine br_d (by omega) ?_ | refine br_nd (by omega) ?_ | refine br_eq (by omega) ?_ | refine br_neq (by omega) ?_ | refine br_ne (by omega) ?_ | refine br_no (bo_eqn (by omega)) ?_ | refine Or.inl ?_ | refine okS_no (by kernel_rfl) ?_ | refine okS_yes (by kernel_rfl) ?_ | refine And_of (by (conv => whnf); (rw [getB_app0]); (conv => whnf)) ?_ | refine setB_app ?_ | refine setB_app0 ?_ | rw [getB_app] | rw [getB_app0] | refine addB_f13 ?_ | refine addB_f12 ?_ | refine addB_f11 ?_ | refine addB_f10 ?_ | refine addB_f9 ?_ | refine addB_f8 ?_ | refine addB_f7 ?_ | refine addB_f6 ?_ | refine addB_f5 ?_ | refine addB_f4 ?_ | refine addB_f3 ?_ | refine addB_f2 ?_ | refine addB_f1 ?_ | refine addB_f0 ?_); conv => whnf)
          refine ⟨⟨rfl, rfl, (by show l.length = (v + 1) * 4; omega), (by show (v + 1 + 1) * 32 ≤ _; omega)⟩, ?_⟩
          conv => whnf
          refine Fg.of [_] ?_ rfl rfl rfl (sc_rmem n N _ (g5C n) rfl)
          conv => whnf
          exact ⟨rfl, rfl, rfl, rfl, wrapKL (by omega), rfl⟩
        · rw [stp_off (by omega)]
          generalize (nbC n c s).1 = d at *
          generalize (nbC n c s).2 = bk at *
          (conv => whnf); repeat ((first | refine ⟨_, _, hb _, ?_⟩ | refine br_d (by omega) ?_ | refine br_nd (by omega) ?_); conv => whnf)
          refine Fg.of [] ?_ (by first | (rw [List.append_nil]; done) | (rw [List.append_nil]; rfl)) rfl rfl (sc_rmem n N _ (g5C n) rfl)
          conv => whnf
          exact ⟨rfl, rfl, rfl, rfl, wrapKL (by omega), rfl⟩
      · (conv => whnf); repeat ((first | refine br_d (by omega) ?_ | refine br_nd (by omega) ?_ | refine br_eq (by omega) ?_ | refine br_neq (by omega) ?_ | refine br_ne (by omega) ?_ | refine br_no (bo_eqn (by omega)) ?_ | refine Or.inl ?_ | refine okS_no (by kernel_rfl) ?_ | refine okS_yes (by kernel_rfl) ?_ | refine And_of (by (conv => whnf); (rw [getB_app0]); (conv => whnf)) ?_ | refine setB_app ?_ | refine setB_app0 ?_ | rw [getB_app] | rw [getB_app0] | refine addB_f13 ?_ | refine addB_f12 ?_ | refine addB_f11 ?_ | refine addB_f10 ?_ | refine addB_f9 ?_ | refine addB_f8 ?_ | refine addB_f7 ?_ | refine addB_f6 ?_ | refine addB_f5 ?_ | refine addB_f4 ?_ | refine addB_f3 ?_ | refine addB_f2 ?_ | refine addB_f1 ?_ | refine addB_f0 ?_); conv => whnf)
        refine Fg.of [] ?_ (by first | (rw [List.append_nil]; done) | (rw [List.append_nil]; rfl)) rfl rfl (sc_rmem n N _ (g5C n) rfl)
        conv => whnf
        exact ⟨rfl, rfl, rfl, wrapKL (by omega), rfl⟩
  · rw [if_neg (by omega)]
    (conv => whnf); repeat (refine br_nd (by omega) ?_; conv => whnf)
    exact ⟨rfl, [], by simp⟩
/-- The reference's net; its first block has the number b. -/
def rnetAt (n b : Nat) : List Blk :=
  [⟨false, .ints .i64 (arF (6 * (n * n)) (numF n))⟩, ⟨false, .cells [I n, .sl (b + 3) 0 (edges n).length, .sl b 0 (4 * (6 * (n * n)))]⟩, Bdead, ⟨false, .ints .i64 (flatE (edges n))⟩]
def rstlC (n : Nat) (i : Nat) : Option Nat :=
  match i with
  | 6 => some ((edges n).length - 1)
  | _ => none
theorem rstlC_big (n i : Nat) (h : 7 ≤ i) : rstlC n i = none := by
  unfold rstlC
  split <;> first | omega | rfl
def rstlN (n : Nat) (j : Nat) : Option Nat := rstlC n (j + 3)
def rstlB (n b i : Nat) : Option Nat := if i < b then none else rstlN n (i - b)
theorem rstlB_at (n b j : Nat) : rstlB n b (b + j) = rstlN n j := by
  unfold rstlB
  rw [if_neg (by omega), show b + j - b = j by omega]
set_option maxHeartbeats 0 in
theorem rnew_at (n : Nat) (hn : 1 ≤ n) (hn' : n ≤ 32) (x : List Blk) : COk Tryz.prog 3 16 [I n] (GG x) (.tup [.ptr ((GG x).length + 1) 0, I 0]) (GG x ++ rnetAt n (GG x).length) := by
  have hpos := edges_pos n hn
  have h := rnew_raw n hn hn'
  have hq1 : (edq n (6 * (n * n))).l = flatE (edges n) := (edq_es n _).1
  have hq2 : (edq n (6 * (n * n))).k = (edges n).length := (edq_es n _).2
  have hq3 : (edq n (6 * (n * n))).f = numF n := rfl
  have hs := sc_rmem n (6 * (n * n)) (edq n (6 * (n * n))) (g5C n) rfl
  have h1 := COk.shift (N := (rmem n (6 * (n * n)) (edq n (6 * (n * n))) (g5C n)).drop 3) h hs (by
    intro b hb
    have hb : b ∈ [_, _, _, _] := hb
    simp only [List.mem_cons, List.not_mem_nil, or_false] at hb
    obtain rfl | rfl | rfl | rfl := hb
    all_goals rfl) rfl rfl x
  have h2 := COk.settle (N' := rnetAt n (GG x).length) (rstlB n (GG x).length) h1 ?_ ?_ ?_ ?_
  · exact h2
  · intro i hi
    exact if_pos hi
  · intro i hi
    have hi : (GG x).length + 4 ≤ i := hi
    obtain ⟨j, rfl⟩ : ∃ j, i = (GG x).length + (4 + j) := ⟨i - (GG x).length - 4, by omega⟩
    rw [rstlB_at]
    exact rstlC_big n _ (by omega)
  · exact ⟨trivial, trivial, trivial⟩
  · generalize (GG x).length = B
    have hat := rstlB_at n B
    unfold rmem
    rw [hq3]
    have hk : (edq n (6 * (n * n))).k - 1 = (edges n).length - 1 := by rw [hq2]
    refine ⟨.same (hat 0) (fun h => nomatch h) (fun j v hv => by
      obtain ⟨y, _, rfl⟩ := Option.map_eq_some_iff.1 (show ((arF (6 * (n * n)) (numF n))[j]?).map (V.int .i64) = some v from hv)
      exact ⟨rfl, trivial⟩), ?_⟩
    refine ⟨.row (hat 1) (fun h => nomatch h) ⟨trivial, ?_, trivial, trivial⟩ ?_, ?_⟩
    · intro u hu; rw [hk]; exact (Option.some.inj ((hat 3).symm.trans hu)).symm
    · rw [hq2]
      show _ = stlL (rstlB n B) [I n, .gs (B + 3) ((edges n).length - 1) 4 (edges n).length, .sl (B + 0) 0 (4 * (6 * (n * n)))]
      simp only [stlL, V.stl, hat]
      rfl
    refine ⟨.gone (.inl (hat 2)) (.inl rfl), ?_, trivial⟩
    unfold edC
    rw [hq1, hk]
    exact .ints (hat 3) (fun h => nomatch h)
/-- The reference's net lies in memory, its first block at b. -/
structure RNet (m : List Blk) (b n : Nat) : Prop where
  ar : getB m b = ⟨false, .ints .i64 (arF (6 * (n * n)) (numF n))⟩
  gr : getB m (b + 1) = ⟨false, .cells [I n, .sl (b + 3) 0 (edges n).length, .sl b 0 (4 * (6 * (n * n)))]⟩
  ed : getB m (b + 3) = ⟨false, .ints .i64 (flatE (edges n))⟩
  lt : b + 4 ≤ m.length
theorem RNet.more {m : List Blk} {b n : Nat} (h : RNet m b n) (x : List Blk) : RNet (m ++ x) b n := by
  have hlt := h.lt
  have e : ∀ i, i < m.length → getB (m ++ x) i = getB m i := fun i hi => by
    rw [getB_eq, getB_eq, List.getD_eq_getElem?_getD, List.getD_eq_getElem?_getD, List.getElem?_append_left hi]
  exact ⟨by rw [e _ (by omega)]; exact h.ar, by rw [e _ (by omega)]; exact h.gr, by rw [e _ (by omega)]; exact h.ed, by simp; omega⟩
theorem rnet_here (n : Nat) (M x : List Blk) : RNet (M ++ (rnetAt n M.length ++ x)) M.length n := by
  have e : ∀ j, j < 4 → getB (M ++ (rnetAt n M.length ++ x)) (M.length + j) = getB (rnetAt n M.length ++ x) j := by
    intro j hj
    rw [getB_eq, getB_eq, List.getD_eq_getElem?_getD, List.getD_eq_getElem?_getD, List.getElem?_append_right (by omega), show M.length + j - M.length = j by omega]
  exact ⟨e 0 (by decide), e 1 (by decide), e 3 (by decide), by simp [rnetAt]⟩
theorem rnetAt_sc (n b : Nat) : scM (b + 4) (rnetAt n b) = true := by
  simp [rnetAt, scM, B.sc, scL, V.sc]
theorem rnew_up {M : List Blk} (hm : Top M) (hsc : scM M.length M = true) (n : Nat) (hn : 1 ≤ n) (hn' : n ≤ 32) : ∃ b M', COk Tryz.prog 3 16 [I n] M (.tup [.ptr (b + 1) 0, I 0]) M' ∧ RNet M' b n ∧ Up M M' := by
  obtain ⟨x, rfl⟩ := hm
  refine ⟨_, _, rnew_at n hn hn' x, ?_, ⟨_, rfl⟩, ?_⟩
  · have := rnet_here n (GG x) []
    rwa [List.append_nil] at this
  · exact scM_app (scM_mono (by simp) _ hsc) (by rw [List.length_append]; exact rnetAt_sc n _)
end Go.Proofs.YtgoljofmbidkfaaGreatDoor
