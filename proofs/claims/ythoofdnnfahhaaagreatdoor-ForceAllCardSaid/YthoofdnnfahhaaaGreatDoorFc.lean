/- Package force: what each function of it answers. No condition. -/
import Derived.Test.YthoofdnnfahhaaaGreatDoorLv
import Derived.Test.YthoofdnnfahhaaaGreatDoorQw
import Derived.Test.YthoofdnnfahhaaaGreatDoorFo
namespace Go.Proofs.YthoofdnnfahhaaaGreatDoor
open Go Go.Eng
set_option maxRecDepth 100000
set_option linter.unusedSimpArgs false
set_option linter.unusedVariables false

/-- What an edge sees of a cell. -/
structure Lk where
  b : Nat
  d : Option Nat
  l : Nat
  w : Bool
abbrev Lk.v (x : Lk) : V := .agg [F x.b, .fl x.d, F x.l, Bo x.w]
def lk (n : Nat) (Be : List Nat) (Wt : List Int) (c : Nat) : Lk := ⟨Be.getD c 0, depthF (Wt.getD c 0) (areaC n c), levelF (Be.getD c 0) (Wt.getD c 0) (areaC n c), decide (Wt.getD c 0 > 0)⟩
abbrev noLk : Lk := ⟨0, some 0, 0, false⟩
def openL (l r : Lk) : Bool := if (!l.w && !r.w) = true then false else if (!l.w && fle (some r.l) (some l.b)) = true then false else if (!r.w && fle (some l.l) (some r.b)) = true then false else true
/-- What a plan says of forces. -/
structure PlF where
  dt : Nat
  gr : Nat
  dr : Nat
abbrev oneW : Nat := 4607182418800017408
abbrev topW : Nat := 4652218415073722368
abbrev lowW : Nat := 13875590451928498176
def pullF (p : PlF) (l r : Lk) (gap : Nat) : Option Nat := fdiv (fmul (fmul (some p.gr) (some p.dt)) (fsub (some r.l) (some l.l))) (some gap)
def capF (o : Option Nat) : Nat := if fgt o (some topW) = true then topW else if flt o (some lowW) = true then lowW else if fne o o = true then 0 else canonF o
def goF (p : PlF) (u h : Option Nat) : Option Nat := fdiv u (fadd (some oneW) (fdiv (fmul (fmul (some p.dr) (some p.dt)) (absO u)) h))
def midF (l r : Lk) : Option Nat := fmul (some halfB) (fadd l.d r.d)
def speedL (p : PlF) (l r : Lk) (gap s : Nat) : Nat :=
  if openL l r = true then (if fgt (midF l r) (some 0) = true then capF (goF p (fsub (some s) (pullF p l r gap)) (midF l r)) else 0) else 0
theorem open_ok (l r : Lk) (m : List Blk) : COk Tryz.prog 3 133 [l.v, r.v] m (Bo (openL l r)) m := by
  obtain ⟨lb, ld, ll, lw⟩ := l
  obtain ⟨rb, rd, rl, rw⟩ := r
  cases lw <;> cases rw
  · refine COk_quiet Tryz.f133 Tryz.func133 (by kernel_rfl) rfl ?_
    (conv => whnf); repeat ((first | rw [getB_app] | rw [getB_app0] | refine addB_f1 ?_ | refine addB_f0 ?_); conv => whnf)
    exact ⟨rfl, _, rfl⟩
  · refine COk_quiet Tryz.f133 Tryz.func133 (by kernel_rfl) rfl ?_
    (conv => whnf); repeat ((first | rw [getB_app] | rw [getB_app0] | refine addB_f1 ?_ | refine addB_f0 ?_); conv => whnf)
    refine br_intro (fun h => ?_) (fun h => ?_)
    · (conv => whnf)
      refine ⟨?_, _, rfl⟩
      simp [openL, h]
    · (conv => whnf); repeat (rw [getB_app]; conv => whnf)
      refine ⟨?_, _, rfl⟩
      simp [openL, h]
  · refine COk_quiet Tryz.f133 Tryz.func133 (by kernel_rfl) rfl ?_
    (conv => whnf); repeat ((first | rw [getB_app] | rw [getB_app0] | refine addB_f1 ?_ | refine addB_f0 ?_); conv => whnf)
    refine br_intro (fun h => ?_) (fun h => ?_)
    · (conv => whnf)
      refine ⟨?_, _, rfl⟩
      simp [openL, h]
    · (conv => whnf)
      refine ⟨?_, _, rfl⟩
      simp [openL, h]
  · refine COk_quiet Tryz.f133 Tryz.func133 (by kernel_rfl) rfl ?_
    (conv => whnf); repeat ((first | rw [getB_app] | rw [getB_app0] | refine addB_f1 ?_ | refine addB_f0 ?_); conv => whnf)
    exact ⟨rfl, _, rfl⟩
/-- A sea that fits a net. -/
structure Fit (n : Nat) (a b c d : Nat) : Prop where
  a : a = 6 * (n * n)
  b : b = 6 * (n * n)
  c : c = 6 * (n * n)
  d : d = (edges n).length
section
variable {M : List Blk} {b n : Nat} (N : Net M b n) {j0 j1 j2 j3 : Nat} {Be : List Nat} {Wt Tr : List Int} {Sp : List Nat} (S : SeaR M j0 j1 j2 j3 Be Wt Tr Sp) (sky step : Int)
include N
theorem ffits_yes {n0 n1 n2 n3 : Nat} (h : Fit n n0 n1 n2 n3) : COk Tryz.prog 3 130 [.ptr (b + 1) 0, seaV j0 j1 j2 j3 n0 n1 n2 n3 sky step] M (Bo true) M := by
  obtain ⟨h0, h1, h2, h3⟩ := h
  subst h0 h1 h2 h3
  refine COk_quiet Tryz.f130 Tryz.func130 (by kernel_rfl) rfl ?_
  (conv => whnf); repeat ((first | refine ⟨_, _, gcells_ok (N.more _), ?_⟩ | refine ⟨_, gedges_ok (N.more _), ?_⟩ | refine br_eq rfl ?_ | rw [getB_app0] | refine addB_f0 ?_); conv => whnf)
  exact ⟨congrArg V.bool (by simp), _, rfl⟩
theorem ffits_no {n0 n1 n2 n3 : Nat} (h : ¬ Fit n n0 n1 n2 n3) : COk Tryz.prog 3 130 [.ptr (b + 1) 0, seaV j0 j1 j2 j3 n0 n1 n2 n3 sky step] M (Bo false) M := by
  by_cases h0 : n0 = 6 * (n * n)
  · by_cases h1 : n1 = 6 * (n * n)
    · by_cases h2 : n2 = 6 * (n * n)
      · have h3 : n3 ≠ (edges n).length := fun h3 => h ⟨h0, h1, h2, h3⟩
        subst h0 h1 h2
        refine COk_quiet Tryz.f130 Tryz.func130 (by kernel_rfl) rfl ?_
        (conv => whnf); repeat ((first | refine ⟨_, _, gcells_ok (N.more _), ?_⟩ | refine ⟨_, gedges_ok (N.more _), ?_⟩ | refine br_eq rfl ?_ | rw [getB_app0] | refine addB_f0 ?_); conv => whnf)
        exact ⟨congrArg V.bool (by first | (simp; done) | (simp; omega)), _, rfl⟩
      · subst h0 h1
        refine COk_quiet Tryz.f130 Tryz.func130 (by kernel_rfl) rfl ?_
        (conv => whnf); repeat ((first | refine ⟨_, _, gcells_ok (N.more _), ?_⟩ | refine br_eq rfl ?_ | refine br_nd (by omega) ?_ | rw [getB_app0] | refine addB_f0 ?_); conv => whnf)
        exact ⟨congrArg V.bool (by first | (simp; done) | (simp; omega)), _, rfl⟩
    · subst h0
      refine COk_quiet Tryz.f130 Tryz.func130 (by kernel_rfl) rfl ?_
      (conv => whnf); repeat ((first | refine ⟨_, _, gcells_ok (N.more _), ?_⟩ | refine br_eq rfl ?_ | refine br_nd (by omega) ?_ | rw [getB_app0] | refine addB_f0 ?_); conv => whnf)
      exact ⟨congrArg V.bool (by first | (simp; done) | (simp; omega)), _, rfl⟩
  · refine COk_quiet Tryz.f130 Tryz.func130 (by kernel_rfl) rfl ?_
    (conv => whnf); repeat ((first | refine ⟨_, _, gcells_ok (N.more _), ?_⟩ | refine br_nd (by omega) ?_ | rw [getB_app0] | refine addB_f0 ?_); conv => whnf)
    exact ⟨congrArg V.bool (by first | (simp; done) | (simp; omega)), _, rfl⟩
include S
theorem look_ok {c : Nat} (hc : c < 6 * (n * n)) (hB : c < Be.length) (hW : c < Wt.length) : COk Tryz.prog 3 187 [.ptr (b + 1) 0, seaV j0 j1 j2 j3 Be.length Wt.length Tr.length Sp.length sky step, I c] M (lk n Be Wt c).v M := by
  have l0 := S.s0.lt
  have l1 := S.s1.lt
  refine COk_quiet Tryz.f187 Tryz.func187 (by kernel_rfl) rfl ?_
  (conv => whnf); repeat ((first | refine ⟨_, _, area_ok (N.more _) c hc, ?_⟩ | refine ⟨_, depth_ok _ _ _, ?_⟩ | refine ⟨_, level_ok _ _ _ _, ?_⟩ | refine SlF.at (S.s0.app _) (i := c) hB rfl ?_ | refine SlI.at (S.s1.app _) (i := c) hW rfl ?_ | refine br_d (by omega) ?_ | refine setB_app ?_ | rw [getB_app] | rw [getB_app0] | refine addB_f1 ?_ | refine addB_f0 ?_); conv => whnf)
  exact ⟨rfl, _, rfl⟩
variable (hf : Fit n Be.length Wt.length Tr.length Sp.length)
include hf
theorem both_ok {e : Nat} {x : Ed} (hn : 1 ≤ n) (hx : (edges n)[e]? = some x) : COk Tryz.prog 3 132 [.ptr (b + 1) 0, seaV j0 j1 j2 j3 Be.length Wt.length Tr.length Sp.length sky step, I e] M (.tup [(lk n Be Wt x.1).v, (lk n Be Wt x.2.2.1).v, Bo true]) M := by
  obtain ⟨c1, _, _, c2, _⟩ := edge_of hn hx
  have h0 := hf.a
  have h1 := hf.b
  refine COk_quiet Tryz.f132 Tryz.func132 (by kernel_rfl) rfl ?_
  (conv => whnf); repeat ((first | refine ⟨_, _, edge_ok (N.more _) e x hx, ?_⟩ | refine ⟨_, _, ffits_yes (N.more _) sky step hf, ?_⟩ | refine ⟨_, look_ok (N.more _) (S.app _) sky step c1 (by omega) (by omega), ?_⟩ | refine ⟨_, look_ok (N.more _) (S.app _) sky step c2 (by omega) (by omega), ?_⟩ | refine setB_app ?_ | rw [getB_app] | rw [getB_app0] | refine addB_f3 ?_ | refine addB_f2 ?_ | refine addB_f1 ?_ | refine addB_f0 ?_); conv => whnf)
  exact ⟨rfl, _, rfl⟩
theorem Open_ok {e : Nat} {x : Ed} (hn : 1 ≤ n) (hx : (edges n)[e]? = some x) : COk Tryz.prog 3 52 [.ptr (b + 1) 0, seaV j0 j1 j2 j3 Be.length Wt.length Tr.length Sp.length sky step, I e] M (Bo (openL (lk n Be Wt x.1) (lk n Be Wt x.2.2.1))) M := by
  refine COk_quiet Tryz.f52 Tryz.func52 (by kernel_rfl) rfl ?_
  (conv => whnf); repeat ((first | refine ⟨_, _, both_ok (N.more _) (S.app _) sky step hf hn hx, ?_⟩ | refine ⟨_, _, open_ok (lk n Be Wt x.1) (lk n Be Wt x.2.2.1) _, ?_⟩ | refine setB_app ?_ | rw [getB_app] | rw [getB_app0] | refine addB_f2 ?_ | refine addB_f1 ?_ | refine addB_f0 ?_); conv => whnf)
  exact ⟨rfl, _, rfl⟩
/-- A plan: what its speeds hang on, and the rest. -/
abbrev planV (side : Int) (p : PlF) (lim : Int) (riv : Bool) (ra : Option Addr) (rl rc : Nat) : V := .agg [I side, F p.dt, F p.gr, F p.dr, I lim, Bo riv, .raw (.slice ra rl rc)]
def speedE (n : Nat) (p : PlF) (Be : List Nat) (Wt : List Int) (Sp : List Nat) (e : Nat) (x : Ed) : Nat := speedL p (lk n Be Wt x.1) (lk n Be Wt x.2.2.1) (gpE n x) (Sp.getD e 0)
theorem speed_ok (side : Int) (p : PlF) (lim : Int) (riv : Bool) (ra : Option Addr) (rl rc : Nat) {e : Nat} {x : Ed} (hn : 1 ≤ n) (hx : (edges n)[e]? = some x) :
    COk Tryz.prog 3 131 [.ptr (b + 1) 0, planV side p lim riv ra rl rc, seaV j0 j1 j2 j3 Be.length Wt.length Tr.length Sp.length sky step, I e] M (F (speedE n p Be Wt Sp e x)) M := by
  have l3 := S.s3.lt
  have h3 : e < Sp.length := by rw [hf.d]; exact (List.getElem?_eq_some_iff.1 hx).1
  have hopen := fun m => open_ok (lk n Be Wt x.1) (lk n Be Wt x.2.2.1) m
  refine COk_quiet Tryz.f131 Tryz.func131 (by kernel_rfl) rfl ?_
  by_cases ho : openL (lk n Be Wt x.1) (lk n Be Wt x.2.2.1) = true
  · rw [ho] at hopen
    (conv => whnf); repeat ((first | refine ⟨_, _, both_ok (N.more _) (S.app _) sky step hf hn hx, ?_⟩ | refine ⟨_, _, hopen _, ?_⟩ | refine ⟨_, ggap_ok (N.more _) e x hx, ?_⟩ | refine SlF.at (S.s3.app _) (i := e) h3 rfl ?_ | refine br_d (by omega) ?_ | refine setB_app ?_ | rw [getB_app] | rw [getB_app0] | refine addB_f3 ?_ | refine addB_f2 ?_ | refine addB_f1 ?_ | refine addB_f0 ?_); conv => whnf)
    by_cases hh : fgt (midF (lk n Be Wt x.1) (lk n Be Wt x.2.2.1)) (some 0) = true
    · have hv : speedE n p Be Wt Sp e x = capF (goF p (fsub (some (Sp.getD e 0)) (pullF p (lk n Be Wt x.1) (lk n Be Wt x.2.2.1) (gpE n x))) (midF (lk n Be Wt x.1) (lk n Be Wt x.2.2.1))) := by
        rw [speedE, speedL, if_pos ho, if_pos hh]
      rw [hv]
      refine br_not (br_yes hh ?_)
      (conv => whnf); repeat ((first | refine ⟨_, abs_okO _ _, ?_⟩ | rw [getB_app0]); conv => whnf)
      refine br_intro (fun h => ?_) (fun h => ?_)
      · (conv => whnf)
        refine ⟨?_, _, rfl⟩
        rw [capF]
        exact congrArg (fun y => F y) (if_pos h).symm
      (conv => whnf)
      refine br_intro (fun h' => ?_) (fun h' => ?_)
      · (conv => whnf)
        refine ⟨?_, _, rfl⟩
        rw [capF]
        exact congrArg (fun y => F y) ((if_neg (Bool.eq_false_iff.1 h)).trans (if_pos h')).symm
      (conv => whnf)
      refine br_intro (fun h2 => ?_) (fun h2 => ?_)
      · (conv => whnf)
        refine ⟨?_, _, rfl⟩
        rw [capF]
        exact congrArg (fun y => F y) ((if_neg (Bool.eq_false_iff.1 h)).trans ((if_neg (Bool.eq_false_iff.1 h')).trans (if_pos h2))).symm
      (conv => whnf); repeat (refine ⟨_, _, canon_ok _ _, ?_⟩; conv => whnf)
      refine ⟨?_, _, rfl⟩
      rw [capF]
      exact congrArg (fun y => F y) ((if_neg (Bool.eq_false_iff.1 h)).trans ((if_neg (Bool.eq_false_iff.1 h')).trans (if_neg (Bool.eq_false_iff.1 h2)))).symm
    · have hv : speedE n p Be Wt Sp e x = 0 := by rw [speedE, speedL, if_pos ho, if_neg hh]
      rw [hv]
      refine br_not (br_no (Bool.eq_false_iff.2 hh) ?_)
      (conv => whnf)
      exact ⟨rfl, _, rfl⟩
  · have ho' : openL (lk n Be Wt x.1) (lk n Be Wt x.2.2.1) = false := by simpa using ho
    rw [ho'] at hopen
    have hv : speedE n p Be Wt Sp e x = 0 := by rw [speedE, speedL, if_neg ho]
    rw [hv]
    (conv => whnf); repeat ((first | refine ⟨_, _, both_ok (N.more _) (S.app _) sky step hf hn hx, ?_⟩ | refine ⟨_, _, hopen _, ?_⟩ | refine setB_app ?_ | rw [getB_app] | refine addB_f3 ?_ | refine addB_f2 ?_ | refine addB_f1 ?_ | refine addB_f0 ?_); conv => whnf)
    exact ⟨rfl, _, rfl⟩
theorem Speed_ok (side : Int) (p : PlF) (lim : Int) (riv : Bool) (ra : Option Addr) (rl rc : Nat) {e : Nat} {x : Ed} (hn : 1 ≤ n) (hx : (edges n)[e]? = some x) :
    COk Tryz.prog 3 53 [.ptr (b + 1) 0, planV side p lim riv ra rl rc, seaV j0 j1 j2 j3 Be.length Wt.length Tr.length Sp.length sky step, I e] M (F (speedE n p Be Wt Sp e x)) M := by
  refine COk_quiet Tryz.f53 Tryz.func53 (by kernel_rfl) rfl ?_
  (conv => whnf); repeat ((first | refine ⟨_, _, speed_ok (N.more _) (S.app _) sky step hf side p lim riv ra rl rc hn hx, ?_⟩ | rw [getB_app] | rw [getB_app0] | refine addB_f1 ?_ | refine addB_f0 ?_); conv => whnf)
  exact ⟨rfl, _, rfl⟩
end
theorem wd_in (s : Bool) {R : Nat} (h : R ≤ infR) : wd s R < 18446744073709551616 := by
  have hi := infR_eq
  cases s
  · rw [wd_false]; omega
  · rw [wd_true]; omega
theorem num_in {o : Option Nat} (h : o = none ∨ Num o) : ∀ b, o = some b → b < 18446744073709551616 := by
  intro b hb
  rcases h with h | ⟨s, R, h1, h2⟩
  · rw [h] at hb; exact nomatch hb
  · rw [h2] at hb
    injection hb with hb
    subst hb; exact wd_in s h1
theorem cw_in (s : Bool) {R : Nat} (h : R ≤ infR) : cw s R < 18446744073709551616 := by
  unfold cw
  split
  · decide
  · exact wd_in s h
theorem canon_in {o : Option Nat} (h : ∀ b, o = some b → b < 18446744073709551616) : canonF o < 18446744073709551616 := by
  rcases canon_is h with h | ⟨s, R, h1, h2⟩
  · rw [h]; decide
  · rw [h2]; exact cw_in s h1
theorem capF_in {o : Option Nat} (h : ∀ b, o = some b → b < 18446744073709551616) : capF o < 18446744073709551616 := by
  unfold capF
  split
  · decide
  · split
    · decide
    · split
      · decide
      · exact canon_in h
theorem speedL_in (p : PlF) (l r : Lk) (gap s : Nat) : speedL p l r gap s < 18446744073709551616 := by
  unfold speedL
  split
  · split
    · exact capF_in (num_in (num_div _ _))
    · decide
  · decide
/-- The speeds over the edges behind a step. -/
def speedT (n : Nat) (p : PlF) (Be : List Nat) (Wt : List Int) (Sp : List Nat) (e : Nat) : Nat := match (edges n)[e]? with
  | some x => speedE n p Be Wt Sp e x
  | none => 0
theorem speedT_at {n : Nat} {p : PlF} {Be : List Nat} {Wt : List Int} {Sp : List Nat} {e : Nat} {x : Ed} (hx : (edges n)[e]? = some x) : speedT n p Be Wt Sp e = speedE n p Be Wt Sp e x := by
  rw [speedT, hx]
theorem speedT_in (n : Nat) (p : PlF) (Be : List Nat) (Wt : List Int) (Sp : List Nat) (e : Nat) : speedT n p Be Wt Sp e < 18446744073709551616 := by
  unfold speedT
  split
  · exact speedL_in _ _ _ _ _
  · decide
theorem SlF.tab {M : List Blk} {j : Nat} {w : Bool} {N : Nat} {G : Nat → Nat} (h : getB M j = ⟨w, .flts (tab N G)⟩) (hw : ∀ i, i < N → inF (G i)) (hs : N < 4611686018427387904) : SlF M j 0 (tab N G) :=
  SlF.flts h (fun i hi => ⟨by omega, by rw [Nat.zero_add]⟩) (fun i hi => by
    rw [tab_len] at hi
    rw [tab_get hi]; exact hw i hi) (by rw [tab_len]; exact hs)
section
variable {M : List Blk} {b n : Nat} (hsc : scM M.length M = true) (N : Net M b n) {j0 j1 j2 j3 : Nat} {Be : List Nat} {Wt Tr : List Int} {Sp : List Nat} (S : SeaR M j0 j1 j2 j3 Be Wt Tr Sp) (sky step : Int) (hf : Fit n Be.length Wt.length Tr.length Sp.length) (hn : 1 ≤ n) (hn' : n ≤ 32)
include hsc N S hf hn hn'
set_option maxHeartbeats 0 in
theorem Speeds_at (side : Int) (p : PlF) (lim : Int) (riv : Bool) (ra : Option Addr) (rl rc : Nat) :
    COk Tryz.prog 3 51 [.ptr (b + 1) 0, planV side p lim riv ra rl rc, seaV j0 j1 j2 j3 Be.length Wt.length Tr.length Sp.length sky step] M (.tup [.sl (M.length + 2) 0 Sp.length, I 0]) (M ++ [⟨true, .cells [I side, F p.dt, F p.gr, F p.dr, I lim, Bo riv, .raw (.slice ra rl rc)]⟩, ⟨true, .cells [.sl j0 0 Be.length, .sl j1 0 Wt.length, .sl j2 0 Tr.length, .sl j3 0 Sp.length, .int .i64 sky, I step]⟩, ⟨true, .flts (tab Sp.length (speedT n p Be Wt Sp))⟩]) ∧ Up M (M ++ [⟨true, .cells [I side, F p.dt, F p.gr, F p.dr, I lim, Bo riv, .raw (.slice ra rl rc)]⟩, ⟨true, .cells [.sl j0 0 Be.length, .sl j1 0 Wt.length, .sl j2 0 Tr.length, .sl j3 0 Sp.length, .int .i64 sky, I step]⟩, ⟨true, .flts (tab Sp.length (speedT n p Be Wt Sp))⟩]) := by
  have l0 := S.s0.lt
  have l1 := S.s1.lt
  have l2 := S.s2.lt
  have l3 := S.s3.lt
  have hnl := N.lt
  have hlen := edges_len hn
  have hsq : n * n ≤ 1024 := Nat.mul_le_mul hn' hn'
  have hd := hf.d
  refine ⟨?_, Up.of hsc (by simp [scM, B.sc, scL, V.sc]; omega)⟩
  refine COk_of_ev Tryz.f51 Tryz.func51 (by kernel_rfl) (by simp) (by simp [V.sc, scL]) (.inr (scM_app (scM_mono (by simp) _ hsc) (by simp [scM, B.sc, scL, V.sc]; omega))) ?_
  have hge : ∀ x, COk Tryz.prog 3 32 [.ptr (b + 1) 0] (M ++ x) (I Sp.length) (M ++ x) := fun x => by rw [hd]; exact gedges_ok (N.more x)
  (conv => whnf); repeat ((first | refine ⟨_, _, ffits_yes (N.more _) sky step hf, ?_⟩ | refine ⟨_, _, hge _, ?_⟩ | refine br_d ⟨by omega, by omega, by omega, (by show (8 : Int) * _ ≤ 2 ^ 48; omega)⟩ ?_ | refine Or.inl ?_ | rw [getB_app] | refine addB_f2 ?_ | refine addB_f1 ?_ | refine addB_f0 ?_); conv => whnf)
  refine loop_to (fun k => [.ptr (b + 1) 0, .any, .any, .any, .ptr M.length 0, .ptr (M.length + 1) 0, .any, .any, .sl (M.length + 2) 0 Sp.length, .any, .any, .any, .any, .any, .any, .any, .any, .any, .any, .any, I Sp.length, I k, .any, .any, .any, .any, .any, .any, .any, .any, .any, .any, .any, .any]) (fun k => M ++ [⟨true, .cells [I side, F p.dt, F p.gr, F p.dr, I lim, Bo riv, .raw (.slice ra rl rc)]⟩, ⟨true, .cells [.sl j0 0 Be.length, .sl j1 0 Wt.length, .sl j2 0 Tr.length, .sl j3 0 Sp.length, .int .i64 sky, I step]⟩, ⟨true, .flts (tab Sp.length (preT k (speedT n p Be Wt Sp) 0))⟩]) 0 Sp.length (Nat.zero_le _) ?_ ?_ ?_
  · refine Fg.of [] ?_ (by rw [List.append_nil]; exact congrArg (fun L => M ++ [⟨true, .cells [I side, F p.dt, F p.gr, F p.dr, I lim, Bo riv, .raw (.slice ra rl rc)]⟩, ⟨true, .cells [.sl j0 0 Be.length, .sl j1 0 Wt.length, .sl j2 0 Tr.length, .sl j3 0 Sp.length, .int .i64 sky, I step]⟩, ⟨true, .flts L⟩]) (pre_0 Sp.length (speedT n p Be Wt Sp) 0)) (by simp) (by (simp [scL, V.sc]) <;> omega) (scM_app (scM_mono (by simp) _ hsc) (by simp [scM, B.sc, scL, V.sc]; omega))
    conv => whnf
    exact ⟨rfl, rfl, rfl, rfl, rfl, rfl, rfl⟩
  · intro k _ hk
    have hx := List.getElem?_eq_getElem (l := edges n) (show k < (edges n).length by omega)
    generalize (edges n)[k] = x at hx
    have hv := speedT_at (p := p) (Be := Be) (Wt := Wt) (Sp := Sp) hx
    have e := pre_set (N := Sp.length) (k := k) (speedT n p Be Wt Sp) 0
    rw [hv] at e
    (conv => whnf); repeat ((first | refine ⟨_, _, speed_ok (N.more _) (S.app _) sky step hf side p lim riv ra rl rc hn hx, ?_⟩ | refine br_yes (tab_blt hk) ?_ | refine put_at (blkF e) ?_ | refine br_d (by omega) ?_ | rw [getB_app] | rw [getB_app0]); conv => whnf)
    refine Fg.of [] ?_ (by rw [List.append_nil]; rfl) (by simp) (by (simp [scL, V.sc]) <;> omega) (scM_app (scM_mono (by simp) _ hsc) (by simp [scM, B.sc, scL, V.sc]; omega))
    conv => whnf
    exact ⟨rfl, rfl, rfl, rfl, rfl, wrapKL (by omega), rfl⟩
  · (conv => whnf); repeat (refine br_nd (by omega) ?_; conv => whnf)
    refine ⟨rfl, [], ?_⟩
    rw [List.append_nil]
    exact congrArg (fun L => M ++ [⟨true, .cells [I side, F p.dt, F p.gr, F p.dr, I lim, Bo riv, .raw (.slice ra rl rc)]⟩, ⟨true, .cells [.sl j0 0 Be.length, .sl j1 0 Wt.length, .sl j2 0 Tr.length, .sl j3 0 Sp.length, .int .i64 sky, I step]⟩, ⟨true, .flts L⟩]) (pre_end _ _ _)
theorem Speeds_ok (side : Int) (p : PlF) (lim : Int) (riv : Bool) (ra : Option Addr) (rl rc : Nat) :
    ∃ M', COk Tryz.prog 3 51 [.ptr (b + 1) 0, planV side p lim riv ra rl rc, seaV j0 j1 j2 j3 Be.length Wt.length Tr.length Sp.length sky step] M (.tup [.sl (M.length + 2) 0 Sp.length, I 0]) M' ∧ Up M M' ∧ getB M' (M.length + 2) = ⟨true, .flts (tab Sp.length (speedT n p Be Wt Sp))⟩ := by
  obtain ⟨h1, h2⟩ := Speeds_at hsc N S sky step hf hn hn' side p lim riv ra rl rc
  exact ⟨_, h1, h2, getB_app 2⟩
end
end Go.Proofs.YthoofdnnfahhaaaGreatDoor
