import Derived.Test.YtgoljofmbidkfaaGreatDoorSx
import Derived.Test.YtgoljofmbidkfaaGreatDoorLa
import Derived.Test.YtgoljofmbidkfaaGreatDoorQ7
/- A sea that is turned. No condition. -/
namespace Go.Proofs.YtgoljofmbidkfaaGreatDoor
open Go Go.Eng
set_option maxRecDepth 100000
set_option linter.unusedSimpArgs false
set_option linter.unusedVariables false

abbrev seaN : V := .agg [nilS', nilS', nilS', nilS', .int .i64 0, I 0]
/-- The numbers of cells and of edges behind a turn, k of them put. -/
abbrev mvB {α : Type} (z : α) (n t : Nat) (l : List α) (o : Nat → α) (k : Nat) : List α := movT (6 * (n * n)) (tC n (inv t)) (fun i => l.getD i z) o k
abbrev mvP (n t : Nat) (l : List Nat) (o : Nat → Nat) (k : Nat) : List Nat := movT (edges n).length (tE n (inv t)) (fun i => trS (tR n t i) (l.getD i 0)) o k
theorem mv_len {α : Type} (N : Nat) (bk : Nat → Nat) (v z : Nat → α) (k : Nat) : (movT N bk v z k).length = N := tab_len _ _
theorem mv_blt {α : Type} {N : Nat} {bk : Nat → Nat} {v z : Nat → α} {k j : Nat} (h : j < N) : Nat.blt (0 + j * 1) (movT N bk v z k).length = true := by rw [mv_len]; simp; omega
section
variable {n t : Nat} (hn : 1 ≤ n) (ht : t < 24)
include hn ht
theorem mvB_set {α : Type} (z : α) (l : List α) (o : Nat → α) {k : Nat} (hk : k < 6 * (n * n)) : (mvB z n t l o k).set (0 + tC n t k * 1) (l.getD k z) = mvB z n t l o (k + 1) := by
  rw [show 0 + tC n t k * 1 = tC n t k by omega]
  exact mov_set (fun i => l.getD i z) o (fun j hj => (tC_inv hn ht hj).1) (tC_inv hn ht hk).2
theorem mvP_set (l : List Nat) (o : Nat → Nat) {k : Nat} (hk : k < (edges n).length) : (mvP n t l o k).set (0 + tE n t k * 1) (trS (tR n t k) (l.getD k 0)) = mvP n t l o (k + 1) := by
  rw [show 0 + tE n t k * 1 = tE n t k by omega]
  exact mov_set (fun i => trS (tR n t i) (l.getD i 0)) o (fun j hj => (tE_inv hn ht hj).1) (tE_inv hn ht hk).2
theorem mvB_end {α : Type} (z : α) (l : List α) (o : Nat → α) : mvB z n t l o (6 * (n * n)) = trB z n t l := mov_end _ _ fun j hj => (tC_lt hn (inv_ok t ht).1 hj).1
theorem mvP_end (l : List Nat) (o : Nat → Nat) : mvP n t l o (edges n).length = trP n t l := mov_end _ _ fun j hj => tE_lt hn (inv_ok t ht).1 hj
omit hn ht in
theorem mvB_0 {α : Type} (z : α) (l : List α) (hl : l.length = 6 * (n * n)) : mvB z n t l (fun i => l.getD i z) 0 = l := by
  refine (mov_0 _ _ _ _).trans ?_
  rw [← hl]; exact (tab_list l z).symm
omit hn ht in
theorem mvP_0 (l : List Nat) (hl : l.length = (edges n).length) : mvP n t l (fun i => l.getD i 0) 0 = l := by
  refine (mov_0 _ _ _ _).trans ?_
  rw [← hl]; exact (tab_list l 0).symm
end
/-- What lies behind the net. -/
def tuR (M1 : List Blk) (N A B E : Nat) (Be : List Nat) (Wt Tr : List Int) (Sp : List Nat) (sky step : Int) (c0 c1 : Blk) : List Blk :=
  [c0, c1, ⟨true, .flts Be⟩, ⟨true, .ints .i64 Wt⟩, ⟨true, .ints .i64 Tr⟩, ⟨true, .flts Sp⟩, sBx (.sl (M1.length + 2) 0 N) (.sl (M1.length + 3) 0 A) (.sl (M1.length + 4) 0 B) (.sl (M1.length + 5) 0 E) sky step]
theorem side_sum4 {k q : Nat} (hk : k < 4) (hq : q < 4) : (IntKind.i64.wrap ((k : Int) + q)).tmod 4 = (((k + q) % 4 : Nat) : Int) := by
  rw [wrap_id (by omega) (by omega), show (k : Int) + q = ((k + q : Nat) : Int) by push_cast; rfl, show (4 : Int) = ((4 : Nat) : Int) from rfl, ← Int.ofNat_tmod]
/-- The edge over the turned side. -/
theorem around_t {n t e : Nat} (hn : 1 ≤ n) (ht : t < 24) {x : Ed} (hx : (edges n)[e]? = some x) : ∀ m b, Net m b n → COk Tryz.prog 3 38 [.ptr (b + 1) 0, I (tC n t x.1), I (((x.2.1 + tQ n t x.1) % 4 : Nat) : Int)] m (.tup [I (tE n t e), I (if tR n t e = true then -1 else 1)]) m := by
  intro m b N
  obtain ⟨c1, s1, _⟩ := edge_of hn hx
  have hl := (tC_lt hn ht c1).1
  have hm : (x.2.1 + tQ n t x.1) % 4 < 4 := Nat.mod_lt _ (by decide)
  obtain ⟨h1, y, h2, h3⟩ := nu_at hn hl hm
  have e1 : tE n t e = nu n (tC n t x.1) ((x.2.1 + tQ n t x.1) % 4) := by unfold tE; rw [hx]
  have e2 : tR n t e = !fw n (tC n t x.1) ((x.2.1 + tQ n t x.1) % 4) := by unfold tR; rw [hx]
  have hne := (nbC_ne hn hl hm).1
  have h := around_ok N _ _ _ y h1 h2
  rw [e1, e2]
  rcases h3 with ⟨f, rfl⟩ | ⟨f, rfl⟩
  · rw [f]
    rw [if_pos rfl] at h
    exact h
  · rw [f]
    rw [if_neg (by simp only; omega)] at h
    exact h
section
variable {M : List Blk} (hm : Top M) (hsc : scM M.length M = true) {j0 j1 j2 j3 : Nat} {w : Bool} {Be : List Nat} {Wt Tr : List Int} {Sp : List Nat} (S : SeaB M w j0 j1 j2 j3 Be Wt Tr Sp)
include hm hsc S
set_option maxHeartbeats 0 in
theorem Turned_raw {n t : Nat} {sky step : Int} (O : SeaOk n Be Wt Tr Sp sky step) (ht : t < 24) {b : Nat} {M1 x : List Blk} (hM1 : M1 = M ++ [sBx (.sl j0 0 Be.length) (.sl j1 0 Wt.length) (.sl j2 0 Tr.length) (.sl j3 0 Sp.length) sky step, sBx nilS' nilS' nilS' nilS' 0 0] ++ x)
    (hnew : COk Tryz.prog 3 15 [I n] (M ++ [sBx (.sl j0 0 Be.length) (.sl j1 0 Wt.length) (.sl j2 0 Tr.length) (.sl j3 0 Sp.length) sky step, sBx nilS' nilS' nilS' nilS' 0 0]) (.tup [.ptr (b + 1) 0, I 0]) M1) (N : Net M1 b n)
    (u1 : Up (M ++ [sBx (.sl j0 0 Be.length) (.sl j1 0 Wt.length) (.sl j2 0 Tr.length) (.sl j3 0 Sp.length) sky step, sBx nilS' nilS' nilS' nilS' 0 0]) M1) :
    ∃ c0 c1, (COk Tryz.prog 3 32 [I n, seaV j0 j1 j2 j3 Be.length Wt.length Tr.length Sp.length sky step, I t] M (.tup [seaV (M1.length + 2) (M1.length + 3) (M1.length + 4) (M1.length + 5) Be.length Wt.length Tr.length Sp.length sky step, I 0])
      (M ++ [sBx (.sl j0 0 Be.length) (.sl j1 0 Wt.length) (.sl j2 0 Tr.length) (.sl j3 0 Sp.length) sky step, sBx (.sl (M1.length + 2) 0 Be.length) (.sl (M1.length + 3) 0 Wt.length) (.sl (M1.length + 4) 0 Tr.length) (.sl (M1.length + 5) 0 Sp.length) sky step] ++ x ++ tuR M1 Be.length Wt.length Tr.length Sp.length (trB 0 n t Be) (trB 0 n t Wt) (trB 0 n t Tr) (trP n t Sp) sky step c0 c1)) ∧ c0 = sBx (.sl (M1.length + 2) 0 Be.length) (.sl (M1.length + 3) 0 Wt.length) (.sl (M1.length + 4) 0 Tr.length) (.sl (M1.length + 5) 0 Sp.length) sky step ∧ c1 = c0 := by
  have l0 := S.read.s0.lt
  have l1 := S.read.s1.lt
  have l2 := S.read.s2.lt
  have l3 := S.read.s3.lt
  have hng := hm.ng
  have hn := O.n1
  have hn' := O.n2
  have e0 := O.l0
  have e1 : Wt.length = Be.length := O.l1.trans O.l0.symm
  have e2 : Tr.length = Be.length := O.l2.trans O.l0.symm
  have e3 := O.l3
  have hlen := edges_len hn
  have hsq : n * n ≤ 1024 := Nat.mul_le_mul hn' hn'
  have hsq1 : 1 ≤ n * n := Nat.mul_le_mul hn hn
  have hnl := N.lt
  have u0 : Up M (M ++ ([sBx (.sl j0 0 Be.length) (.sl j1 0 Wt.length) (.sl j2 0 Tr.length) (.sl j3 0 Sp.length) sky step, sBx nilS' nilS' nilS' nilS' 0 0] : List Blk)) := Up.of hsc (by simp [scM, B.sc, scL, V.sc]; omega)
  have ux := u0.trans u1
  have hk := Check_ok u0.sc (by simp; omega) (S.read.up u0) n sky step
  rw [O.chk] at hk
  have ha := after_c (hm.up u0) ht
  have S1 := S.up ux
  have hl1 : M1.length = M.length + 2 + x.length := by rw [hM1]; simp; omega
  have hcp := Copy_pl u1.sc S1 (by omega) (by omega) (by omega) (by omega) sky step
  have hgl : ∀ l : List Blk, getB (M1 ++ l) M.length = sBx (.sl j0 0 Be.length) (.sl j1 0 Wt.length) (.sl j2 0 Tr.length) (.sl j3 0 Sp.length) sky step := fun l => by
    rw [hM1, List.append_assoc, List.append_assoc]
    exact getB_app0
  have hgl0 := hgl []
  rw [List.append_nil] at hgl0
  unfold copL at hcp
  refine ⟨sBx (.sl (M1.length + 2) 0 Be.length) (.sl (M1.length + 3) 0 Wt.length) (.sl (M1.length + 4) 0 Tr.length) (.sl (M1.length + 5) 0 Sp.length) sky step, sBx (.sl (M1.length + 2) 0 Be.length) (.sl (M1.length + 3) 0 Wt.length) (.sl (M1.length + 4) 0 Tr.length) (.sl (M1.length + 5) 0 Sp.length) sky step, ?_, rfl, rfl⟩
  have hx : scM M1.length x = true := by
    have := u1.sc
    rw [hM1] at this ⊢
    exact (scM_of_app this).2
  have hscL : scM (M ++ [sBx (.sl j0 0 Be.length) (.sl j1 0 Wt.length) (.sl j2 0 Tr.length) (.sl j3 0 Sp.length) sky step, sBx (.sl (M1.length + 2) 0 Be.length) (.sl (M1.length + 3) 0 Wt.length) (.sl (M1.length + 4) 0 Tr.length) (.sl (M1.length + 5) 0 Sp.length) sky step] ++ x ++ tuR M1 Be.length Wt.length Tr.length Sp.length (trB 0 n t Be) (trB 0 n t Wt) (trB 0 n t Tr) (trP n t Sp) sky step (sBx (.sl (M1.length + 2) 0 Be.length) (.sl (M1.length + 3) 0 Wt.length) (.sl (M1.length + 4) 0 Tr.length) (.sl (M1.length + 5) 0 Sp.length) sky step) (sBx (.sl (M1.length + 2) 0 Be.length) (.sl (M1.length + 3) 0 Wt.length) (.sl (M1.length + 4) 0 Tr.length) (.sl (M1.length + 5) 0 Sp.length) sky step)).length
      (M ++ [sBx (.sl j0 0 Be.length) (.sl j1 0 Wt.length) (.sl j2 0 Tr.length) (.sl j3 0 Sp.length) sky step, sBx (.sl (M1.length + 2) 0 Be.length) (.sl (M1.length + 3) 0 Wt.length) (.sl (M1.length + 4) 0 Tr.length) (.sl (M1.length + 5) 0 Sp.length) sky step] ++ x ++ tuR M1 Be.length Wt.length Tr.length Sp.length (trB 0 n t Be) (trB 0 n t Wt) (trB 0 n t Tr) (trP n t Sp) sky step (sBx (.sl (M1.length + 2) 0 Be.length) (.sl (M1.length + 3) 0 Wt.length) (.sl (M1.length + 4) 0 Tr.length) (.sl (M1.length + 5) 0 Sp.length) sky step) (sBx (.sl (M1.length + 2) 0 Be.length) (.sl (M1.length + 3) 0 Wt.length) (.sl (M1.length + 4) 0 Tr.length) (.sl (M1.length + 5) 0 Sp.length) sky step)) = true := by
    refine scM_app (scM_app (scM_app (scM_mono (by simp) _ hsc) ?_) (scM_mono (by rw [hl1]; simp [tuR]; omega) _ hx)) ?_
    · rw [hl1]; simp [scM, B.sc, scL, V.sc, tuR]; omega
    · rw [hl1]; simp [scM, B.sc, scL, V.sc, tuR]; omega
  refine COk_of_ev Tryz.f32 Tryz.func32 (by kernel_rfl) (by simp) (by simp [V.sc, scL, tuR, hM1]; omega) (.inr hscL) ?_
  (conv => whnf); repeat ((first | refine ⟨_, _, hk, ?_⟩ | refine ⟨_, _, ha, ?_⟩ | refine ⟨_, _, hnew, ?_⟩ | refine ⟨_, _, hcp, ?_⟩ | rw [hgl0] | rw [hgl] | refine setB_app ?_ | rw [getB_app] | rw [getB_app0] | refine addB_f6 ?_ | refine addB_f1 ?_ | refine addB_f0 ?_); conv => whnf)
  have hm1 := hm.up ux
  have hS := S1.read
  have hscm : ∀ (BB : List Nat) (W T : List Int) (P : List Nat) (c0 c1 : Blk), c0 = sBx (.sl (M1.length + 2) 0 Be.length) (.sl (M1.length + 3) 0 Wt.length) (.sl (M1.length + 4) 0 Tr.length) (.sl (M1.length + 5) 0 Sp.length) sky step → c1 = c0 → scM (M1 ++ tuR M1 Be.length Wt.length Tr.length Sp.length BB W T P sky step c0 c1).length (M1 ++ tuR M1 Be.length Wt.length Tr.length Sp.length BB W T P sky step c0 c1) = true := by
    intro BB W T P c0 c1 h0 h1
    subst h1
    subst h0
    exact scM_app (scM_mono (by simp) _ u1.sc) (by simp [tuR, scM, B.sc, scL, V.sc])
  have hbB := fun c (hc : c < 6 * (n * n)) => (tC_lt hn ht hc).1
  refine loop_to (fun k => [I n, .any, I t, .any, .ptr M.length 0, .any, .ptr (M.length + 1) 0, .any, .any, .any, .ptr (b + 1) 0, .any, .ptr (M1.length + 6) 0, .any, .any, .any, .any, .any, .any, .any, .any, .any, .any, .any, .any, .any, .any, .any, .any, .any, .any, .any, .any, .any, .any, .any, .any, .any, .any, .any, .any, .any, .any, .any, .any, .any, .any, .any, .any, .any, .any, I Be.length, I k, .any, .any, .any, .any, .any, .any, .any, .any, .any, .any, .any, .any, .any, .any, .any, .any, .any, .any, .any, .any, .any, .any, .any, .any, .any, .any, .any, .any, .any, .any, .any, .any, .any, .any, .any, .any, .any, .any, .any, .any, .any, .any, .any, .any, .any, .any, .any, .any, .any, .any, .any, .any, .any, .any, .any, .any, .any, .any, .any, .any, .any, .any, .any, .any, .any, .any, .any, .any, .any, .any, .any, .any, .any, .any, .any, .any, .any, .any, .any, .any, .any, .any]) (fun k => M1 ++ tuR M1 Be.length Wt.length Tr.length Sp.length (mvB 0 n t Be (fun i => Be.getD i 0) k) (mvB 0 n t Wt (fun i => Wt.getD i 0) k) (mvB 0 n t Tr (fun i => Tr.getD i 0) k) Sp sky step (sBx (.sl (M1.length + 2) 0 Be.length) (.sl (M1.length + 3) 0 Wt.length) (.sl (M1.length + 4) 0 Tr.length) (.sl (M1.length + 5) 0 Sp.length) sky step) (sBx (.sl (M1.length + 2) 0 Be.length) (.sl (M1.length + 3) 0 Wt.length) (.sl (M1.length + 4) 0 Tr.length) (.sl (M1.length + 5) 0 Sp.length) sky step)) 0 Be.length (Nat.zero_le _) ?_ ?_ ?_
  · refine Fg.of [] ?_ (by rw [List.append_nil, mvB_0 _ _ O.l0, mvB_0 _ _ O.l1, mvB_0 _ _ O.l2]; rfl) (by simp [tuR]) (by first | (simp [scL, V.sc, tuR]; done) | (simp [scL, V.sc, tuR]; omega)) (hscm _ _ _ _ _ _ rfl rfl)
    conv => whnf
    exact ⟨rfl, rfl, rfl, rfl, rfl, rfl, rfl, rfl, rfl⟩
  · intro c _ hc
    have hc6 : c < 6 * (n * n) := by omega
    unfold tuR
    have hT := fun l => turn_c (hm1.app l) hn hn' ht hc6
    have hb6 := hbB c hc6
    have eB := mvB_set hn ht (0 : Nat) Be (fun i => Be.getD i 0) hc6
    have eW := mvB_set hn ht (0 : Int) Wt (fun i => Wt.getD i 0) hc6
    have eT := mvB_set hn ht (0 : Int) Tr (fun i => Tr.getD i 0) hc6
    (conv => whnf); repeat ((first | refine ⟨_, _, hT _, ?_⟩ | rw [hgl] | refine SlF.at (hS.s0.app _) (i := c) hc rfl ?_ | refine SlI.at (hS.s1.app _) (i := c) (by omega) rfl ?_ | refine SlI.at (hS.s2.app _) (i := c) (by omega) rfl ?_ | refine br_yes (mv_blt (hbB c hc6)) ?_ | refine put_at (blkF eB) ?_ | refine put_at (blkI eW) ?_ | refine put_at (blkI eT) ?_ | refine ⟨rfl, ?_⟩ | refine br_d (by omega) ?_ | rw [getB_app]); conv => whnf)
    refine Fg.of [] ?_ (by rw [List.append_nil]; rfl) (by simp [tuR]) (by first | (simp [scL, V.sc, tuR]; done) | (simp [scL, V.sc, tuR]; omega)) (hscm _ _ _ _ _ _ rfl rfl)
    conv => whnf
    exact ⟨rfl, rfl, rfl, rfl, rfl, rfl, rfl, wrapKL (by omega), rfl⟩
  · have e9 : Be.length = 6 * (n * n) := O.l0
    have fB : mvB 0 n t Be (fun i => Be.getD i 0) Be.length = trB 0 n t Be := by rw [e9]; exact mvB_end hn ht _ _ _
    have fW : mvB 0 n t Wt (fun i => Wt.getD i 0) Be.length = trB 0 n t Wt := by rw [e9]; exact mvB_end hn ht _ _ _
    have fT : mvB 0 n t Tr (fun i => Tr.getD i 0) Be.length = trB 0 n t Tr := by rw [e9]; exact mvB_end hn ht _ _ _
    rw [fB, fW, fT]
    have hscq := fun (k : Nat) => hscm (trB 0 n t Be) (trB 0 n t Wt) (trB 0 n t Tr) (mvP n t Sp (fun i => Sp.getD i 0) k) _ _ rfl rfl
    have hP0 : Sp = mvP n t Sp (fun i => Sp.getD i 0) 0 := (mvP_0 Sp e3).symm
    unfold tuR
    (conv => whnf); repeat ((first | rw [hgl] | refine br_nd (by omega) ?_); conv => whnf)
    refine loop_to (fun k => [I n, .any, I t, .any, .ptr M.length 0, .any, .ptr (M.length + 1) 0, .any, .any, .any, .ptr (b + 1) 0, .any, .ptr (M1.length + 6) 0, .any, .any, .any, .any, .any, .any, .any, .any, .any, .any, .any, .any, .any, .any, .any, .any, .any, .any, .any, .any, .any, .any, .any, .any, .any, .any, .any, .any, .any, .any, .any, .any, .any, .any, .any, .any, .any, .any, .any, .any, .any, .any, .any, .any, .any, .any, .any, .any, .any, .any, .any, .any, .any, .any, .any, .any, .any, .any, .any, .any, .any, .any, .any, .any, .any, .any, .any, .any, .any, .any, .any, .any, .any, .any, .any, .any, .any, .any, .sl j3 0 Sp.length, I Sp.length, I k, .any, .any, .any, .any, .any, .any, .any, .any, .any, .any, .any, .any, .any, .any, .any, .any, .any, .any, .any, .any, .any, .any, .any, .any, .any, .any, .any, .any, .any, .any, .any, .any, .any, .any, .any, .any, .any, .any, .any, .any, .any]) (fun k => M1 ++ tuR M1 Be.length Wt.length Tr.length Sp.length (trB 0 n t Be) (trB 0 n t Wt) (trB 0 n t Tr) (mvP n t Sp (fun i => Sp.getD i 0) k) sky step (sBx (.sl (M1.length + 2) 0 Be.length) (.sl (M1.length + 3) 0 Wt.length) (.sl (M1.length + 4) 0 Tr.length) (.sl (M1.length + 5) 0 Sp.length) sky step) (sBx (.sl (M1.length + 2) 0 Be.length) (.sl (M1.length + 3) 0 Wt.length) (.sl (M1.length + 4) 0 Tr.length) (.sl (M1.length + 5) 0 Sp.length) sky step)) 0 Sp.length (Nat.zero_le _) ?_ ?_ ?_
    · refine Fg.of [] ?_ (by rw [List.append_nil]; unfold tuR; rw [← hP0]) (by simp [tuR]) (by first | (simp [scL, V.sc, tuR]; done) | (simp [scL, V.sc, tuR]; omega)) (hscq _)
      conv => whnf
      exact ⟨rfl, rfl, rfl, rfl, rfl, rfl, rfl, rfl, rfl, rfl⟩
    · intro k _ hk
      have hx := List.getElem?_eq_getElem (l := edges n) (show k < (edges n).length by omega)
      generalize (edges n)[k] = y at hx
      obtain ⟨c1, s1, _⟩ := edge_of hn hx
      have hE := fun z => edge_ok (N.more z) k y hx
      have hT := fun l => turn_c (hm1.app l) hn hn' ht c1
      have hA := fun z => around_t hn ht hx _ _ (N.more z)
      have hq4 := (tC_lt hn ht c1).2
      have hsd := side_sum4 s1 hq4
      have eP := mvP_set hn ht Sp (fun i => Sp.getD i 0) (show k < (edges n).length by omega)
      have hbe : tE n t k < (edges n).length := tE_lt hn ht (by omega)
      unfold tuR
      cases hr : tR n t k with
      | true =>
        rw [hr] at hA eP
        (conv => whnf); repeat ((first | refine SlF.at (hS.s3.app _) (i := k) hk rfl ?_ | refine ⟨_, _, hE _, ?_⟩ | refine ⟨_, _, hT _, ?_⟩ | rw [hsd] | refine ⟨_, _, hA _, ?_⟩ | refine ⟨_, _, canon_ok _ _, ?_⟩ | refine br_yes (mv_blt hbe) ?_ | refine put_at (blkF eP) ?_ | refine br_d (by omega) ?_ | refine setB_app ?_ | rw [getB_app] | refine addB_f7 ?_); conv => whnf)
        refine Fg.of [_] ?_ (by rw [List.append_assoc]; rfl) (by simp [tuR]) (by first | (simp [scL, V.sc, tuR]; done) | (simp [scL, V.sc, tuR]; omega)) (hscq _)
        conv => whnf
        exact ⟨rfl, rfl, rfl, rfl, rfl, rfl, rfl, rfl, wrapKL (by omega), rfl⟩
      | false =>
        rw [hr] at hA eP
        (conv => whnf); repeat ((first | refine SlF.at (hS.s3.app _) (i := k) hk rfl ?_ | refine ⟨_, _, hE _, ?_⟩ | refine ⟨_, _, hT _, ?_⟩ | rw [hsd] | refine ⟨_, _, hA _, ?_⟩ | refine br_yes (mv_blt hbe) ?_ | refine put_at (blkF eP) ?_ | refine br_d (by omega) ?_ | refine setB_app ?_ | rw [getB_app] | refine addB_f7 ?_); conv => whnf)
        refine Fg.of [_] ?_ (by rw [List.append_assoc]; rfl) (by simp [tuR]) (by first | (simp [scL, V.sc, tuR]; done) | (simp [scL, V.sc, tuR]; omega)) (hscq _)
        conv => whnf
        exact ⟨rfl, rfl, rfl, rfl, rfl, rfl, rfl, rfl, wrapKL (by omega), rfl⟩
    · have fP : mvP n t Sp (fun i => Sp.getD i 0) Sp.length = trP n t Sp := by rw [e3]; exact mvP_end hn ht _ _
      rw [fP]
      unfold tuR
      have hset : ∀ (l : List Blk) (c : Blk) (K : List Blk → Prop), K (M ++ [sBx (.sl j0 0 Be.length) (.sl j1 0 Wt.length) (.sl j2 0 Tr.length) (.sl j3 0 Sp.length) sky step, c] ++ x ++ l) → setB (M1 ++ l) (M.length + 1) c K := fun l c K hk => by
        rw [hM1, List.append_assoc, List.append_assoc]
        refine setB_app ?_
        simpa using hk
      have hgl2 : ∀ l : List Blk, getB (M1 ++ l) (M.length + 1) = sBx nilS' nilS' nilS' nilS' 0 0 := fun l => by
        rw [hM1, List.append_assoc, List.append_assoc]
        exact getB_app 1
      have hgr : ∀ (d c : Blk) (l : List Blk), getB (M ++ [d, c] ++ x ++ l) (M.length + 1) = c := fun d c l => by
        rw [List.append_assoc, List.append_assoc]
        exact getB_app 1
      (conv => whnf); repeat ((first | rw [hgl2] | refine hset _ _ _ ?_ | rw [hgr] | refine br_nd (by omega) ?_ | rw [getB_app]); conv => whnf)
      refine ⟨rfl, [], ?_⟩
      rw [List.append_nil]
theorem Turned_up {n t : Nat} {sky step : Int} (O : SeaOk n Be Wt Tr Sp sky step) (ht : t < 24) : ∃ M' k0 k1 k2 k3, COk Tryz.prog 3 32 [I n, seaV j0 j1 j2 j3 Be.length Wt.length Tr.length Sp.length sky step, I t] M
      (.tup [seaV k0 k1 k2 k3 (trB 0 n t Be).length (trB 0 n t Wt).length (trB 0 n t Tr).length (trP n t Sp).length sky step, I 0]) M' ∧ Up M M' ∧ SeaB M' true k0 k1 k2 k3 (trB 0 n t Be) (trB 0 n t Wt) (trB 0 n t Tr) (trP n t Sp) := by
  have l0 := S.read.s0.lt
  have l1 := S.read.s1.lt
  have l2 := S.read.s2.lt
  have l3 := S.read.s3.lt
  have hn := O.n1
  have i1 := (inv_ok t ht).1
  have hsq : n * n ≤ 1024 := Nat.mul_le_mul O.n2 O.n2
  have hlen := edges_len hn
  have u0 : Up M (M ++ ([sBx (.sl j0 0 Be.length) (.sl j1 0 Wt.length) (.sl j2 0 Tr.length) (.sl j3 0 Sp.length) sky step, sBx nilS' nilS' nilS' nilS' 0 0] : List Blk)) := Up.of hsc (by simp [scM, B.sc, scL, V.sc]; omega)
  obtain ⟨b, M1, hnew, N, u1⟩ := new_up (hm.up u0) u0.sc n O.n1 O.n2
  obtain ⟨x, hM1⟩ := u1.ex
  obtain ⟨c0, c1, hr, h0, h1⟩ := Turned_raw hm hsc S O ht hM1 hnew N u1
  have hl1 : M1.length = M.length + 2 + x.length := by rw [hM1]; simp; omega
  have hx : scM M1.length x = true := by
    have := u1.sc
    rw [hM1] at this ⊢
    exact (scM_of_app this).2
  rw [show (trB 0 n t Be).length = Be.length from (trB_len _ _ _ _).trans O.l0.symm, show (trB 0 n t Wt).length = Wt.length from (trB_len _ _ _ _).trans O.l1.symm, show (trB 0 n t Tr).length = Tr.length from (trB_len _ _ _ _).trans O.l2.symm, show (trP n t Sp).length = Sp.length from (trP_len _ _ _).trans O.l3.symm]
  refine ⟨_, M1.length + 2, M1.length + 3, M1.length + 4, M1.length + 5, hr, Up.mk ⟨_, by rw [List.append_assoc, List.append_assoc]⟩ ?_, ?_⟩
  · subst h1; subst h0
    refine scM_app (scM_app (scM_app (scM_mono (by simp) _ hsc) ?_) (scM_mono (by rw [hl1]; simp [tuR]; omega) _ hx)) ?_
    · rw [hl1]; simp [scM, B.sc, scL, V.sc, tuR]; omega
    · rw [hl1]; simp [scM, B.sc, scL, V.sc, tuR]; omega
  · have eL : ∀ d c : Blk, M1.length = (M ++ [d, c] ++ x).length := fun d c => by rw [hl1]; simp; omega
    have hw := fun i hi => S.f3 i hi
    have get : ∀ (d c : Blk) (l : List Blk) (k : Nat), getB (M ++ [d, c] ++ x ++ l) (M1.length + k) = getB l k := fun d c l k => by
      rw [eL d c]; exact getB_app k
    have hm2 : mxS ≤ infR := by decide
    refine ⟨get _ _ _ 2, get _ _ _ 3, get _ _ _ 4, get _ _ _ 5, fun i hi => ?_, fun i hi => ?_, fun i hi => ?_, fun i hi => ?_, by rw [trB_len]; omega, by rw [trB_len]; omega, by rw [trB_len]; omega, by rw [trP_len]; omega⟩
    · rw [trB_len] at hi
      unfold trB
      rw [tab_get hi]
      exact S.f0 _ (by rw [O.l0]; exact (tC_lt hn i1 hi).1)
    · rw [trB_len] at hi
      unfold trB
      rw [tab_get hi]
      exact S.f1 _ (by rw [O.l1]; exact (tC_lt hn i1 hi).1)
    · rw [trB_len] at hi
      unfold trB
      rw [tab_get hi]
      exact S.f2 _ (by rw [O.l2]; exact (tC_lt hn i1 hi).1)
    · rw [trP_len] at hi
      unfold trP
      rw [tab_get hi]
      have hq : tE n (inv t) i < Sp.length := by rw [O.l3]; exact tE_lt hn i1 hi
      exact (trS_betw _ (S.f3 _ hq) hm2 (badF_no (O.spd _ hq))).2
end
end Go.Proofs.YtgoljofmbidkfaaGreatDoor
/- Package tarnlaw20: awake, wide. No condition. -/
namespace Go.Proofs.YtgoljofmbidkfaaGreatDoor
open Go Go.Eng
set_option maxRecDepth 100000
set_option linter.unusedSimpArgs false
set_option linter.unusedVariables false

abbrev one1 : Nat := 4607182418800017408
abbrev ar1 : Int := 1431655765
theorem area1' : ∀ c, c < 6 → areaC 1 c = ar1 := by decide +kernel
theorem plan_dt {x : Int} (hx : cellsI x = 6) (d g r lim : Nat) (hd : fgt (some d) (some 0) = false) (riv : Bool) (vR : V) (ho : vR.one = true) (M : List Blk) : COk Tryz.prog 3 23 [.agg [I x, F d, F g, F r, I lim, Bo riv, vR]] M (I 11) M := by
  have hc := fun m => cells_ok x m
  rw [hx] at hc
  have hone : allOne [I x, F d, F g, F r, I lim, Bo riv, vR] = true := by simp only [allOne, ho]; rfl
  refine COk_quiet Tryz.f23 Tryz.func23 (by kernel_rfl) rfl ?_
  (conv => whnf); repeat ((first | refine br_yes hone ?_ | refine ⟨_, _, hc _, ?_⟩ | refine br_yes (congrArg not hd) ?_ | refine setB_app ?_ | rw [getB_app] | rw [getB_app0] | refine addB_f1 ?_ | refine addB_f0 ?_); conv => whnf)
  exact ⟨rfl, _, rfl⟩
abbrev z6F : List Nat := List.replicate 6 0
abbrev z6I : List Int := List.replicate 6 0
abbrev z12 : List Nat := List.replicate 12 0
theorem nothing_ok {M : List Blk} (hsc : scM M.length M = true) : COk Tryz.prog 3 67 [] M (seaV (M.length + 1) (M.length + 2) (M.length + 3) (M.length + 4) 6 6 6 12 0 0) (M ++ [sBx (.sl (M.length + 1) 0 6) (.sl (M.length + 2) 0 6) (.sl (M.length + 3) 0 6) (.sl (M.length + 4) 0 12) 0 0, ⟨true, .flts z6F⟩, ⟨true, .ints .i64 z6I⟩, ⟨true, .ints .i64 z6I⟩, ⟨true, .flts z12⟩]) := by
  refine COk_of_ev Tryz.f67 Tryz.func67 (by kernel_rfl) (by simp) (by simp [V.sc, scL]) (.inr (scM_app (scM_mono (by simp) _ hsc) (by simp [scM, B.sc, scL, V.sc]))) ?_
  (conv => whnf); repeat ((first | refine Or.inl ?_ | refine setB_app0 ?_ | rw [getB_app0] | refine addB_f4 ?_ | refine addB_f3 ?_ | refine addB_f2 ?_ | refine addB_f1 ?_ | refine addB_f0 ?_); conv => whnf)
  exact ⟨rfl, [], by rw [List.append_nil]; rfl⟩
/-- The bed that is too high. -/
abbrev bad4 : Nat := 4701340746312056832
theorem chk_bad : chkF 1 (z6F.set 4 bad4) z6I z6I z12 0 0 = (4, 13) := by decide +kernel
theorem lak_at : ∀ c, c < 6 → lakW 1 z6F one1 c = ar1 := by
  intro c hc
  unfold lakW
  rw [area1' c hc, show z6F.getD c 0 = 0 by rw [List.getD_eq_getElem?_getD, List.getElem?_replicate, if_pos hc]; rfl]
  decide +kernel
theorem lak_tab : tab z6F.length (lakW 1 z6F one1) = List.replicate 6 ar1 := by
  rw [show z6F.length = 6 from rfl, tab_rep]
  exact tab_congr lak_at
theorem lak_q : quI (tab z6F.length (lakW 1 z6F one1)) 0 = -1 := by rw [lak_tab]; decide +kernel
theorem lak_b : ¬ 0 ≤ flI z6F mxH := by decide +kernel
theorem lak_h : highB one1 = true := by decide +kernel
theorem edges12 : (edges 1).length = 12 := edges_len (n := 1) (by decide)
theorem lak_ok : SeaOk 1 z6F (List.replicate 6 ar1) z6I (z12.set 0 one1) 0 0 := by
  have h : (chkF 1 z6F (List.replicate 6 ar1) z6I (z12.set 0 one1) 0 0).2 = 0 := by decide +kernel
  obtain ⟨n, hn, O⟩ := chk_ok h
  obtain rfl : n = 1 := by omega
  exact O
theorem lak_diff : sameB (z6F, List.replicate 6 ar1, z6I, z12, 0, 0) (z6F, List.replicate 6 ar1, z6I, z12.set 0 one1, 0, 0) = false := by decide +kernel
abbrev tailT (L : Nat) : List Blk := [sBx (.sl (L + 2) 0 6) (.sl (L + 3) 0 6) (.sl (L + 4) 0 6) (.sl (L + 5) 0 12) 0 0, sBx (.sl (L + 2) 0 6) (.sl (L + 3) 0 6) (.sl (L + 4) 0 6) (.sl (L + 5) 0 12) 0 0,
  ⟨true, .flts z6F⟩, ⟨true, .ints .i64 (List.replicate 6 ar1)⟩, ⟨true, .ints .i64 z6I⟩, ⟨true, .flts (z12.set 0 one1)⟩, sBx (.sl (L + 2) 0 6) (.sl (L + 3) 0 6) (.sl (L + 4) 0 6) (.sl (L + 5) 0 12) 0 0]
set_option maxHeartbeats 0 in
theorem awake20_ok {M : List Blk} (hm : Top M) (hsc : scM M.length M = true) : COk Tryz.prog 3 22 [] M (Bo true) M := by
  have hng := hm.ng
  have h0 := nothing_ok hsc
  have u1 : Up M (M ++ ([sBx (.sl (M.length + 1) 0 6) (.sl (M.length + 2) 0 6) (.sl (M.length + 3) 0 6) (.sl (M.length + 4) 0 12) 0 0, ⟨true, .flts (z6F.set 4 bad4)⟩, ⟨true, .ints .i64 z6I⟩, ⟨true, .ints .i64 z6I⟩, ⟨true, .flts z12⟩, sBx (.sl (M.length + 1) 0 6) (.sl (M.length + 2) 0 6) (.sl (M.length + 3) 0 6) (.sl (M.length + 4) 0 12) 0 0] : List Blk)) :=
    Up.of hsc (by simp [scM, B.sc, scL, V.sc])
  have S1 : SeaR (M ++ ([sBx (.sl (M.length + 1) 0 6) (.sl (M.length + 2) 0 6) (.sl (M.length + 3) 0 6) (.sl (M.length + 4) 0 12) 0 0, ⟨true, .flts (z6F.set 4 bad4)⟩, ⟨true, .ints .i64 z6I⟩, ⟨true, .ints .i64 z6I⟩, ⟨true, .flts z12⟩, sBx (.sl (M.length + 1) 0 6) (.sl (M.length + 2) 0 6) (.sl (M.length + 3) 0 6) (.sl (M.length + 4) 0 12) 0 0] : List Blk)) (M.length + 1) (M.length + 2) (M.length + 3) (M.length + 4) (z6F.set 4 bad4) z6I z6I z12 :=
    ⟨SlF.whole (getB_app 1) (by decide) (by decide), SlI.whole (getB_app 2) (by decide) (by decide), SlI.whole (getB_app 3) (by decide) (by decide), SlF.whole (getB_app 4) (by decide) (by decide)⟩
  have hck := Check_ok u1.sc (by simp) S1 1 0 0
  rw [chk_bad] at hck
  have u2 : Up M (M ++ ([sBx (.sl (M.length + 1) 0 6) (.sl (M.length + 2) 0 6) (.sl (M.length + 3) 0 6) (.sl (M.length + 4) 0 12) 0 0, ⟨true, .flts (z6F.set 4 bad4)⟩, ⟨true, .ints .i64 z6I⟩, ⟨true, .ints .i64 z6I⟩, ⟨true, .flts z12⟩, sBx (.sl (M.length + 1) 0 6) (.sl (M.length + 2) 0 6) (.sl (M.length + 3) 0 6) (.sl (M.length + 4) 0 12) 0 0, ⟨true, .flts z6F⟩] : List Blk)) :=
    Up.of hsc (by simp [scM, B.sc, scL, V.sc])
  obtain ⟨M2, k0, k1, k2, k3, hlk, u3, S2⟩ := Lake_up (hm.up u2) u2.sc (j := M.length + 6) (w := true) (Be := z6F) (getB_app 6) (by decide) (by decide) (n := 1) (by decide) (by decide) (by decide) lak_b lak_h lak_q
  rw [lak_tab, edges12] at S2
  rw [edges12] at hlk
  have hm2 := (hm.up u2).up u3
  refine COk_quiet Tryz.f22 Tryz.func22 (by kernel_rfl) rfl ?_
  have hpl := fun m => plan_dt (x := 1) (by decide) 0 0 0 0 (by decide +kernel) false nilS' rfl m
  have u4 : Up M2 (M2 ++ ([sBx (.sl k0 0 6) (.sl k1 0 6) (.sl k2 0 6) (.sl k3 0 12) 0 0] : List Blk)) := Up.of u3.sc (by
    have a0 := S2.read.s0.lt
    have a1 := S2.read.s1.lt
    have a2 := S2.read.s2.lt
    have a3 := S2.read.s3.lt
    simp [scM, B.sc, scL, V.sc]; omega)
  have hcp := Copy_pl u4.sc (S2.up u4) (by decide) (by decide) (by decide) (by decide) 0 0
  have hw5 : (List.replicate 6 ar1).getD 5 0 = ar1 := rfl
  unfold copL at hcp
  have u5 : Up (M2 ++ ([sBx (.sl k0 0 6) (.sl k1 0 6) (.sl k2 0 6) (.sl k3 0 12) 0 0] : List Blk)) (M2 ++ ([sBx (.sl k0 0 6) (.sl k1 0 6) (.sl k2 0 6) (.sl k3 0 12) 0 0] : List Blk) ++ tailT (M2 ++ ([sBx (.sl k0 0 6) (.sl k1 0 6) (.sl k2 0 6) (.sl k3 0 12) 0 0] : List Blk)).length) :=
    Up.of u4.sc (by simp [scM, B.sc, scL, V.sc])
  have S5 : SeaB (M2 ++ ([sBx (.sl k0 0 6) (.sl k1 0 6) (.sl k2 0 6) (.sl k3 0 12) 0 0] : List Blk) ++ tailT (M2 ++ ([sBx (.sl k0 0 6) (.sl k1 0 6) (.sl k2 0 6) (.sl k3 0 12) 0 0] : List Blk)).length) true ((M2 ++ ([sBx (.sl k0 0 6) (.sl k1 0 6) (.sl k2 0 6) (.sl k3 0 12) 0 0] : List Blk)).length + 2) ((M2 ++ ([sBx (.sl k0 0 6) (.sl k1 0 6) (.sl k2 0 6) (.sl k3 0 12) 0 0] : List Blk)).length + 3) ((M2 ++ ([sBx (.sl k0 0 6) (.sl k1 0 6) (.sl k2 0 6) (.sl k3 0 12) 0 0] : List Blk)).length + 4) ((M2 ++ ([sBx (.sl k0 0 6) (.sl k1 0 6) (.sl k2 0 6) (.sl k3 0 12) 0 0] : List Blk)).length + 5)
      z6F (List.replicate 6 ar1) z6I (z12.set 0 one1) :=
    ⟨getB_app 2, getB_app 3, getB_app 4, getB_app 5, by decide, by decide, by decide, by decide, by decide, by decide, by decide, by decide⟩
  obtain ⟨M5, q0, q1, q2, q3, htu, u6, S6⟩ := Turned_up ((hm2.up u4).up u5) u5.sc S5 lak_ok (t := 4) (by decide)
  rw [trB_len, trB_len, trB_len, trP_len, edges12] at htu
  have b0 := S6.read.s0.lt
  have b1 := S6.read.s1.lt
  have b2 := S6.read.s2.lt
  have b3 := S6.read.s3.lt
  have u7 : Up M5 (M5 ++ ([sBx (.sl q0 0 6) (.sl q1 0 6) (.sl q2 0 6) (.sl q3 0 12) 0 0] : List Blk)) := Up.of u6.sc (by simp [scM, B.sc, scL, V.sc]; omega)
  have hm7 := (((hm2.up u4).up u5).up u6).up u7
  have hl := Same_ok u7.sc hm7.ng (S2.read.up (((u4.trans u5).trans u6).trans u7)) (S2.read.up (((u4.trans u5).trans u6).trans u7)) 0 0 0 0
  rw [sameB_self] at hl
  have hd := Same_ok u7.sc hm7.ng (S2.read.up (((u4.trans u5).trans u6).trans u7)) (S5.read.up (u6.trans u7)) 0 0 0 0
  rw [show sameB (z6F, List.replicate 6 ar1, List.replicate z6F.length 0, List.replicate 12 0, 0, 0) (z6F, List.replicate 6 ar1, z6I, z12.set 0 one1, 0, 0) = false from lak_diff] at hd
  have g4 : ∀ l : List Blk, ∃ y, M5 ++ l = M2 ++ ([sBx (.sl k0 0 6) (.sl k1 0 6) (.sl k2 0 6) (.sl k3 0 12) 0 0] ++ y) := fun l => by
    obtain ⟨y, hy⟩ := (u5.trans u6).ex
    exact ⟨y ++ l, by rw [hy]; simp⟩
  have gl : ∀ l : List Blk, getB (M5 ++ l) M2.length = sBx (.sl k0 0 6) (.sl k1 0 6) (.sl k2 0 6) (.sl k3 0 12) 0 0 := fun l => by
    obtain ⟨y, hy⟩ := g4 l
    rw [hy]; exact getB_app0
  have gt : ∀ l : List Blk, getB (M5 ++ l) ((M2 ++ ([sBx (.sl k0 0 6) (.sl k1 0 6) (.sl k2 0 6) (.sl k3 0 12) 0 0] : List Blk)).length + 6) = sBx (.sl ((M2 ++ ([sBx (.sl k0 0 6) (.sl k1 0 6) (.sl k2 0 6) (.sl k3 0 12) 0 0] : List Blk)).length + 2) 0 6) (.sl ((M2 ++ ([sBx (.sl k0 0 6) (.sl k1 0 6) (.sl k2 0 6) (.sl k3 0 12) 0 0] : List Blk)).length + 3) 0 6) (.sl ((M2 ++ ([sBx (.sl k0 0 6) (.sl k1 0 6) (.sl k2 0 6) (.sl k3 0 12) 0 0] : List Blk)).length + 4) 0 6) (.sl ((M2 ++ ([sBx (.sl k0 0 6) (.sl k1 0 6) (.sl k2 0 6) (.sl k3 0 12) 0 0] : List Blk)).length + 5) 0 12) 0 0 := fun l => by
    obtain ⟨y, hy⟩ := u6.ex
    rw [hy, List.append_assoc]
    exact getB_in (getB_app 6) rfl
  (conv => whnf); repeat ((first | refine ⟨_, _, h0, ?_⟩ | refine ⟨_, _, hck, ?_⟩ | refine ⟨_, _, hlk, ?_⟩ | refine ⟨_, _, hpl _, ?_⟩ | refine ⟨_, _, hcp, ?_⟩ | refine ⟨_, _, htu, ?_⟩ | refine ⟨_, _, hl, ?_⟩ | refine ⟨_, _, hd, ?_⟩ | refine SlI.at (S2.read.s1.app _) (i := 5) (by decide) rfl ?_ | rw [hw5] | rw [gl] | rw [gt] | refine Or.inl ?_ | refine setB_app ?_ | refine setB_app0 ?_ | rw [getB_app] | rw [getB_app0] | refine addB_f6 ?_ | refine addB_f5 ?_ | refine addB_f0 ?_); conv => whnf)
  exact ⟨rfl, (((((u2.trans u3).trans u4).trans u5).trans u6)).app _⟩
/-- More numbers than are looked at? -/
def wideB (a b c d : Nat) : Bool := decide ((a + b + c + d : Nat) > 131072)
end Go.Proofs.YtgoljofmbidkfaaGreatDoor
/- Plans: whether a plan can be. No condition. -/
namespace Go.Proofs.YtgoljofmbidkfaaGreatDoor
open Go Go.Eng
set_option maxRecDepth 100000
set_option linter.unusedSimpArgs false
set_option linter.unusedVariables false

/-- Whether a rain can be, in a sea of so many cells. -/
def rainB (cells a b f t : Int) : Bool := decide (a ≥ 0) && (decide (a < cells) && (decide (b ≥ -4503599627370496) && (decide (b ≤ 4503599627370496) && (decide (f ≥ 0) && decide (t ≥ f)))))
theorem rain_ok (cells a b f t : Int) (m : List Blk) : COk Tryz.prog 3 72 [I cells, .agg [I a, .int .i64 b, I f, I t]] m (Bo (rainB cells a b f t)) m := by
    refine COk_quiet Tryz.f72 Tryz.func72 (by kernel_rfl) rfl ?_
    unfold rainB
    by_cases h0 : a ≥ 0
    case neg =>
      rw [decide_eq_false h0]
      (conv => whnf); repeat ((first | refine br_nd (by omega) ?_ | rw [getB_app0] | refine addB_f0 ?_); conv => whnf)
      exact ⟨rfl, _, rfl⟩
    rw [decide_eq_true h0]
    by_cases h1 : a < cells
    case neg =>
      rw [decide_eq_false h1]
      (conv => whnf); repeat ((first | refine br_d (by omega) ?_ | refine br_nd (by omega) ?_ | rw [getB_app0] | refine addB_f0 ?_); conv => whnf)
      exact ⟨rfl, _, rfl⟩
    rw [decide_eq_true h1]
    by_cases h2 : b ≥ -4503599627370496
    case neg =>
      rw [decide_eq_false h2]
      (conv => whnf); repeat ((first | refine br_d (by omega) ?_ | refine br_nd (by omega) ?_ | rw [getB_app0] | refine addB_f0 ?_); conv => whnf)
      exact ⟨rfl, _, rfl⟩
    rw [decide_eq_true h2]
    by_cases h3 : b ≤ 4503599627370496
    case neg =>
      rw [decide_eq_false h3]
      (conv => whnf); repeat ((first | refine br_d (by omega) ?_ | refine br_nd (by omega) ?_ | rw [getB_app0] | refine addB_f0 ?_); conv => whnf)
      exact ⟨rfl, _, rfl⟩
    rw [decide_eq_true h3]
    by_cases h4 : f ≥ 0
    case neg =>
      rw [decide_eq_false h4]
      (conv => whnf); repeat ((first | refine br_d (by omega) ?_ | refine br_nd (by omega) ?_ | rw [getB_app0] | refine addB_f0 ?_); conv => whnf)
      exact ⟨rfl, _, rfl⟩
    rw [decide_eq_true h4]
    (conv => whnf); repeat ((first | refine br_d (by omega) ?_ | rw [getB_app0] | refine addB_f0 ?_); conv => whnf)
    exact ⟨rfl, _, rfl⟩
theorem rrain_ok (cells a b f t : Int) (m : List Blk) : COk Tryz.prog 3 75 [I cells, .agg [I a, .int .i64 b, I f, I t]] m (Bo (rainB cells a b f t)) m := by
    refine COk_quiet Tryz.f75 Tryz.func75 (by kernel_rfl) rfl ?_
    unfold rainB
    by_cases h0 : a ≥ 0
    case neg =>
      rw [decide_eq_false h0]
      (conv => whnf); repeat ((first | refine br_nd (by omega) ?_ | rw [getB_app0] | refine addB_f0 ?_); conv => whnf)
      exact ⟨rfl, _, rfl⟩
    rw [decide_eq_true h0]
    by_cases h1 : a < cells
    case neg =>
      rw [decide_eq_false h1]
      (conv => whnf); repeat ((first | refine br_d (by omega) ?_ | refine br_nd (by omega) ?_ | rw [getB_app0] | refine addB_f0 ?_); conv => whnf)
      exact ⟨rfl, _, rfl⟩
    rw [decide_eq_true h1]
    by_cases h2 : b ≥ -4503599627370496
    case neg =>
      rw [decide_eq_false h2]
      (conv => whnf); repeat ((first | refine br_d (by omega) ?_ | refine br_nd (by omega) ?_ | rw [getB_app0] | refine addB_f0 ?_); conv => whnf)
      exact ⟨rfl, _, rfl⟩
    rw [decide_eq_true h2]
    by_cases h3 : b ≤ 4503599627370496
    case neg =>
      rw [decide_eq_false h3]
      (conv => whnf); repeat ((first | refine br_d (by omega) ?_ | refine br_nd (by omega) ?_ | rw [getB_app0] | refine addB_f0 ?_); conv => whnf)
      exact ⟨rfl, _, rfl⟩
    rw [decide_eq_true h3]
    by_cases h4 : f ≥ 0
    case neg =>
      rw [decide_eq_false h4]
      (conv => whnf); repeat ((first | refine br_d (by omega) ?_ | refine br_nd (by omega) ?_ | rw [getB_app0] | refine addB_f0 ?_); conv => whnf)
      exact ⟨rfl, _, rfl⟩
    rw [decide_eq_true h4]
    (conv => whnf); repeat ((first | refine br_d (by omega) ?_ | rw [getB_app0] | refine addB_f0 ?_); conv => whnf)
    exact ⟨rfl, _, rfl⟩
def limV (x : Int) : Bool := decide (x ≥ 0) && decide (x ≤ 3)
theorem limv_ok (x : Int) (m : List Blk) : COk Tryz.prog 3 69 [I x] m (Bo (limV x)) m := by
    refine COk_quiet Tryz.f69 Tryz.func69 (by kernel_rfl) rfl ?_
    unfold limV
    by_cases h0 : x ≥ 0
    case neg =>
      rw [decide_eq_false h0]
      (conv => whnf); repeat (refine br_nd (by omega) ?_; conv => whnf)
      exact ⟨rfl, [], by simp⟩
    rw [decide_eq_true h0]
    (conv => whnf); repeat (refine br_d (by omega) ?_; conv => whnf)
    exact ⟨rfl, [], by simp⟩
theorem rlimv_ok (x : Int) (m : List Blk) : COk Tryz.prog 3 73 [I x] m (Bo (limV x)) m := by
    refine COk_quiet Tryz.f73 Tryz.func73 (by kernel_rfl) rfl ?_
    unfold limV
    by_cases h0 : x ≥ 0
    case neg =>
      rw [decide_eq_false h0]
      (conv => whnf); repeat (refine br_nd (by omega) ?_; conv => whnf)
      exact ⟨rfl, [], by simp⟩
    rw [decide_eq_true h0]
    (conv => whnf); repeat (refine br_d (by omega) ?_; conv => whnf)
    exact ⟨rfl, [], by simp⟩
/-- The first rain that can't be. -/
def badR (cells : Int) (l : List Int) (i : Nat) : Bool := !rainB cells (l.getD (4 * i) 0) (l.getD (4 * i + 1) 0) (l.getD (4 * i + 2) 0) (l.getD (4 * i + 3) 0)
abbrev rainV (l : List Int) (i : Nat) : V := .agg [I (l.getD (4 * i) 0), .int .i64 (l.getD (4 * i + 1) 0), I (l.getD (4 * i + 2) 0), I (l.getD (4 * i + 3) 0)]
theorem plan1_ok {M : List Blk} {jc : Nat} {cells : Int} (hj : getB M jc = ⟨true, .cells [I cells]⟩) (l : List Int) (i : Nat) : COk Tryz.prog 3 71 [rainV l i, .ptr jc 0] M (Bo (badR cells l i)) M := by
  have hlt : jc < M.length := getB_lt hj rfl
  have hg : ∀ z, getB (M ++ z) jc = ⟨true, .cells [I cells]⟩ := fun z => getB_in hj rfl
  refine COk_quiet Tryz.f71 Tryz.func71 (by kernel_rfl) rfl ?_
  (conv => whnf); repeat ((first | rw [hg] | refine ⟨_, _, rain_ok _ _ _ _ _ _, ?_⟩ | rw [getB_app0] | refine addB_f0 ?_); conv => whnf)
  exact ⟨rfl, _, rfl⟩
theorem RainB.sl {M : List Blk} {j n : Nat} {l : List Int} (R : RainB M j l n) : SlI M j 0 l := SlI.ints R.b (fun i hi => ⟨by omega, by rw [Nat.zero_add]⟩) R.f (by have := R.l; have := R.s; omega)
section
variable {M : List Blk} (hsc : scM M.length M = true) {j n : Nat} {l : List Int} (R : RainB M j l n)
include hsc R
set_option maxHeartbeats 0 in
theorem idxR_ok {fn : FuncId} {jc : Nat} {cells : Int} (hjl : jc < M.length) (hclo : ∀ i, COk Tryz.prog 3 fn [rainV l i, .ptr jc 0] M (Bo (badR cells l i)) M) : COk Tryz.prog 3 123 [.sl j 0 n, .clo (.func fn) [] [.ptr jc 0]] M (I (fstI n (badR cells l))) M := by
  have S := R.sl
  have hl := R.l
  have hs := R.s
  have hj := S.lt
  have hle := fstN_le n (badR cells l)
  have c4 : Tryz.prog.cellsOf 111 = 4 := by kernel_rfl
  have E0 : ∀ k : Nat, 0 + (k : Int).toNat * Tryz.prog.cellsOf 111 = 0 + 4 * k * 1 := fun k => by rw [c4, Int.toNat_natCast]; omega
  have E1 : ∀ k : Nat, 0 + (k : Int).toNat * Tryz.prog.cellsOf 111 + 1 = 0 + (4 * k + 1) * 1 := fun k => by rw [c4, Int.toNat_natCast]; omega
  have E2 : ∀ k : Nat, 0 + (k : Int).toNat * Tryz.prog.cellsOf 111 + 1 + 1 = 0 + (4 * k + 2) * 1 := fun k => by rw [c4, Int.toNat_natCast]; omega
  have E3 : ∀ k : Nat, 0 + (k : Int).toNat * Tryz.prog.cellsOf 111 + 1 + 1 + 1 = 0 + (4 * k + 3) * 1 := fun k => by rw [c4, Int.toNat_natCast]; omega
  refine COk_quiet Tryz.f123 Tryz.func123 (by kernel_rfl) rfl ?_
  by_cases hk : fstN n (badR cells l) < n
  · rw [show fstI n (badR cells l) = (fstN n (badR cells l) : Int) from if_pos hk]
    have hy := fstN_yes hk
    have h0 : ∀ i, i < fstN n (badR cells l) → badR cells l i = false := fun i hi => fstN_no hi
    generalize fstN n (badR cells l) = k at *
    (conv => whnf)
    refine loop_to (fun i => [.sl j 0 n, .clo (.func fn) [] [.ptr jc 0], .any, .any, .any, .any, .any, I n, I i, .any, .any, .any, .any, .any, .any, .any, .any, .any, .any]) (fun i => M) 0 k (Nat.zero_le _) ?_ ?_ ?_
    · refine Fg.of [] ?_ (by rw [List.append_nil]) (by first | (simp; done) | (simp; omega)) (by first | (simp [scL, V.sc]; done) | (simp [scL, V.sc]; omega)) hsc
      conv => whnf
      exact ⟨rfl, rfl, rfl, rfl, rfl⟩
    · intro i _ hi
      have hc := hclo i
      rw [h0 i hi] at hc
      (conv => whnf); repeat ((first | refine SlI.at S (i := 4 * i) (by omega) (E0 i) ?_ | refine SlI.at S (i := 4 * i + 1) (by omega) (E1 i) ?_ | refine SlI.at S (i := 4 * i + 2) (by omega) (E2 i) ?_ | refine SlI.at S (i := 4 * i + 3) (by omega) (E3 i) ?_ | refine ⟨_, _, hc, ?_⟩ | refine br_d (by omega) ?_); conv => whnf)
      refine Fg.of [] ?_ (by rw [List.append_nil]) (by first | (simp; done) | (simp; omega)) (by first | (simp [scL, V.sc]; done) | (simp [scL, V.sc]; omega)) hsc
      conv => whnf
      exact ⟨rfl, rfl, rfl, wrapKL (by omega), rfl⟩
    · have hc := hclo k
      rw [hy] at hc
      (conv => whnf); repeat ((first | refine SlI.at S (i := 4 * k) (by omega) (E0 k) ?_ | refine SlI.at S (i := 4 * k + 1) (by omega) (E1 k) ?_ | refine SlI.at S (i := 4 * k + 2) (by omega) (E2 k) ?_ | refine SlI.at S (i := 4 * k + 3) (by omega) (E3 k) ?_ | refine ⟨_, _, hc, ?_⟩ | refine br_d (by omega) ?_); conv => whnf)
      exact ⟨rfl, [], by simp⟩
  · rw [show fstI n (badR cells l) = -1 from if_neg hk]
    have h0 : ∀ i, i < n → badR cells l i = false := fun i hi => fstN_end hk hi
    (conv => whnf)
    refine loop_to (fun i => [.sl j 0 n, .clo (.func fn) [] [.ptr jc 0], .any, .any, .any, .any, .any, I n, I i, .any, .any, .any, .any, .any, .any, .any, .any, .any, .any]) (fun i => M) 0 n (Nat.zero_le _) ?_ ?_ ?_
    · refine Fg.of [] ?_ (by rw [List.append_nil]) (by first | (simp; done) | (simp; omega)) (by first | (simp [scL, V.sc]; done) | (simp [scL, V.sc]; omega)) hsc
      conv => whnf
      exact ⟨rfl, rfl, rfl, rfl, rfl⟩
    · intro i _ hi
      have hc := hclo i
      rw [h0 i hi] at hc
      (conv => whnf); repeat ((first | refine SlI.at S (i := 4 * i) (by omega) (E0 i) ?_ | refine SlI.at S (i := 4 * i + 1) (by omega) (E1 i) ?_ | refine SlI.at S (i := 4 * i + 2) (by omega) (E2 i) ?_ | refine SlI.at S (i := 4 * i + 3) (by omega) (E3 i) ?_ | refine ⟨_, _, hc, ?_⟩ | refine br_d (by omega) ?_); conv => whnf)
      refine Fg.of [] ?_ (by rw [List.append_nil]) (by first | (simp; done) | (simp; omega)) (by first | (simp [scL, V.sc]; done) | (simp [scL, V.sc]; omega)) hsc
      conv => whnf
      exact ⟨rfl, rfl, rfl, wrapKL (by omega), rfl⟩
    · (conv => whnf); repeat (refine br_nd (by omega) ?_; conv => whnf)
      exact ⟨rfl, [], by simp⟩
end
end Go.Proofs.YtgoljofmbidkfaaGreatDoor
