import Derived.Test.YtgoljofmbidkfaaGreatDoorProg
import Derived.Test.YtgoljofmbidkfaaGreatDoorE21
/- The base of this seat's contracts: the two tables of the program as abstract blocks; words for what the walks leave. No condition. -/
namespace Go.Proofs.YtgoljofmbidkfaaGreatDoor
open Go Go.Eng
set_option maxRecDepth 100000
set_option linter.unusedSimpArgs false
set_option linter.unusedVariables false

/-- A row of ints. -/
def rowI (l : List Int) : List V := l.map (V.int .i64)
def cubeL : List Int := [1,0,0, 0,1,0, 0,0,1,  0,1,0, -1,0,0, 0,0,1,  -1,0,0, 0,-1,0, 0,0,1,  0,-1,0, 1,0,0, 0,0,1,  0,0,1, 0,1,0, -1,0,0,  0,0,-1, 0,1,0, 1,0,0]
/-- The table 'frames' of cube and of geom: the same numbers. -/
def Gcube : Blk := ⟨false, .cells (rowI cubeL)⟩
def Gdead : Blk := ⟨false, .dead⟩
abbrev GG (x : List Blk) : List Blk := Gcube :: Gdead :: Gcube :: x

theorem lift {f : FuncId} {args : List V} {r : V} (h : COk Tryz.prog 3 f args (GG []) r (GG [])) (ha : scL 3 args = true) (x : List Blk) : COk Tryz.prog 3 f args (GG x) r (GG x) :=
  COk.more h (by kernel_rfl) (by kernel_rfl) (by kernel_rfl) ha x

theorem wrap_id {n : Int} (h1 : -9223372036854775808 ≤ n) (h2 : n < 9223372036854775808) : IntKind.i64.wrap n = n := by
  have key : ∀ m : Int, n % (2 ^ 64 : Int) = m → IntKind.i64.wrap n = if (true && decide (m ≥ (2 ^ 63 : Int))) = true then m - 2 ^ 64 else m := fun m h => by rw [← h]; rfl
  rcases (by omega : n < 0 ∨ 0 ≤ n) with h | h
  · have e : n % (2 ^ 64 : Int) = n + 2 ^ 64 := by omega
    rw [key _ e, if_pos (by simp; omega)]
    omega
  · rw [key _ (Int.emod_eq_of_lt h (by omega)), if_neg (by simp; omega)]
abbrev I (n : Int) : V := .int .i64 n
abbrev Bo (b : Bool) : V := .bool b
theorem of_dec {p : Prop} [Decidable p] (h : decide p = true) : p := of_decide_eq_true h
theorem of_ndec {p : Prop} [Decidable p] (h : decide p = false) : ¬ p := of_decide_eq_false h
theorem br_d {p : Prop} [Decidable p] {A B : Prop} (h : p) (k : A) : br (decide p) A B := br_yes (decide_eq_true h) k
theorem br_nd {p : Prop} [Decidable p] {A B : Prop} (h : ¬ p) (k : B) : br (decide p) A B := br_no (decide_eq_false h) k
theorem br_di {p : Prop} [Decidable p] {A B : Prop} (h : p → A) (k : ¬ p → B) : br (decide p) A B := br_intro (fun e => h (of_decide_eq_true e)) (fun e => k (of_decide_eq_false e))
theorem br_not {c : Bool} {A B : Prop} (h : br c B A) : br (!c) A B := by cases c <;> exact h
theorem br_eq {a b : Int} {A B : Prop} (h : a = b) (k : A) : br (a == b) A B := br_yes (by simpa using h) k
theorem br_neq {a b : Int} {A B : Prop} (h : a ≠ b) (k : B) : br (a == b) A B := br_no (by simpa using h) k
theorem br_ne {a b : Int} {A B : Prop} (h : a ≠ b) (k : A) : br (a != b) A B := br_yes (by simpa using h) k
/-- One round of a loop of this program. -/
theorem lr {n : Nat} {c : Code} {t : List V} {m : List Blk} {K : Exit → List V → List Blk → Prop}
    (h : ev Tryz.prog 3 c t m fun e t' m' => match e with | .normal => loopVC n c (ev Tryz.prog 3 c) t' m' K | e => K e t' m') : loopVC n c (ev Tryz.prog 3 c) t m K := loop_round h
end Go.Proofs.YtgoljofmbidkfaaGreatDoor
/- Small laws for walks: memory that is shut, and known blocks behind it. No condition. -/
namespace Go.Proofs.YtgoljofmbidkfaaGreatDoor
open Go Go.Eng
set_option maxRecDepth 100000
set_option linter.unusedSimpArgs false
set_option linter.unusedVariables false

theorem getB_app {M l : List Blk} (k : Nat) : getB (M ++ l) (M.length + k) = getB l k := by
  rw [getB_eq, getB_eq, List.getD_eq_getElem?_getD, List.getD_eq_getElem?_getD, List.getElem?_append_right (by omega)]
  congr 2; omega
theorem getB_app0 {M l : List Blk} : getB (M ++ l) M.length = getB l 0 := getB_app 0
theorem getB_in {M l : List Blk} {i : Nat} {b : Blk} (h : getB M i = b) (hl : b.b.live = true) : getB (M ++ l) i = b := by
  rw [getB_eq, List.getD_eq_getElem?_getD] at h ⊢
  rcases Nat.lt_or_ge i M.length with hi | hi
  · rw [List.getElem?_append_left hi]; exact h
  · rw [List.getElem?_eq_none hi] at h
    subst h
    exact absurd hl (by simp [B.live])
theorem getB_lt {M : List Blk} {i : Nat} {b : Blk} (h : getB M i = b) (hl : b.b.live = true) : i < M.length := by
  rw [getB_eq, List.getD_eq_getElem?_getD] at h
  rcases Nat.lt_or_ge i M.length with hi | hi
  · exact hi
  · rw [List.getElem?_eq_none hi] at h
    subst h
    exact absurd hl (by simp [B.live])
theorem addB_app {M l : List Blk} {b : Blk} {K : Nat → List Blk → Prop} (h : K (M.length + l.length) (M ++ (l ++ [b]))) : addB (M ++ l) b K := by
  rw [addB_eq, List.length_append, List.append_assoc]; exact h
theorem setB_app {M l : List Blk} {k : Nat} {c : Blk} {K : List Blk → Prop} (h : K (M ++ l.set k c)) : setB (M ++ l) (M.length + k) c K := by
  rw [setB_eq, List.set_append_right _ _ (by omega), show M.length + k - M.length = k by omega]; exact h
theorem setB_app0 {M l : List Blk} {c : Blk} {K : List Blk → Prop} (h : K (M ++ l.set 0 c)) : setB (M ++ l) M.length c K := setB_app (k := 0) h
theorem addB_f0 {M : List Blk} {b : Blk} {K : Nat → List Blk → Prop} (h : K M.length (M ++ [b])) : addB M b K := by rw [addB_eq]; exact h
theorem addB_f1 {M : List Blk} {a0 b : Blk} {K : Nat → List Blk → Prop} (h : K (M.length + 1) (M ++ [a0, b])) : addB (M ++ [a0]) b K := addB_app h
theorem addB_f2 {M : List Blk} {a0 a1 b : Blk} {K : Nat → List Blk → Prop} (h : K (M.length + 2) (M ++ [a0, a1, b])) : addB (M ++ [a0, a1]) b K := addB_app h
theorem addB_f3 {M : List Blk} {a0 a1 a2 b : Blk} {K : Nat → List Blk → Prop} (h : K (M.length + 3) (M ++ [a0, a1, a2, b])) : addB (M ++ [a0, a1, a2]) b K := addB_app h
theorem addB_f4 {M : List Blk} {a0 a1 a2 a3 b : Blk} {K : Nat → List Blk → Prop} (h : K (M.length + 4) (M ++ [a0, a1, a2, a3, b])) : addB (M ++ [a0, a1, a2, a3]) b K := addB_app h
theorem addB_f5 {M : List Blk} {a0 a1 a2 a3 a4 b : Blk} {K : Nat → List Blk → Prop} (h : K (M.length + 5) (M ++ [a0, a1, a2, a3, a4, b])) : addB (M ++ [a0, a1, a2, a3, a4]) b K := addB_app h
theorem addB_f6 {M : List Blk} {a0 a1 a2 a3 a4 a5 b : Blk} {K : Nat → List Blk → Prop} (h : K (M.length + 6) (M ++ [a0, a1, a2, a3, a4, a5, b])) : addB (M ++ [a0, a1, a2, a3, a4, a5]) b K := addB_app h
theorem addB_f7 {M : List Blk} {a0 a1 a2 a3 a4 a5 a6 b : Blk} {K : Nat → List Blk → Prop} (h : K (M.length + 7) (M ++ [a0, a1, a2, a3, a4, a5, a6, b])) : addB (M ++ [a0, a1, a2, a3, a4, a5, a6]) b K := addB_app h
theorem addB_f8 {M : List Blk} {a0 a1 a2 a3 a4 a5 a6 a7 b : Blk} {K : Nat → List Blk → Prop} (h : K (M.length + 8) (M ++ [a0, a1, a2, a3, a4, a5, a6, a7, b])) : addB (M ++ [a0, a1, a2, a3, a4, a5, a6, a7]) b K := addB_app h
theorem addB_f9 {M : List Blk} {a0 a1 a2 a3 a4 a5 a6 a7 a8 b : Blk} {K : Nat → List Blk → Prop} (h : K (M.length + 9) (M ++ [a0, a1, a2, a3, a4, a5, a6, a7, a8, b])) : addB (M ++ [a0, a1, a2, a3, a4, a5, a6, a7, a8]) b K := addB_app h
theorem addB_f10 {M : List Blk} {a0 a1 a2 a3 a4 a5 a6 a7 a8 a9 b : Blk} {K : Nat → List Blk → Prop} (h : K (M.length + 10) (M ++ [a0, a1, a2, a3, a4, a5, a6, a7, a8, a9, b])) : addB (M ++ [a0, a1, a2, a3, a4, a5, a6, a7, a8, a9]) b K := addB_app h
theorem addB_f11 {M : List Blk} {a0 a1 a2 a3 a4 a5 a6 a7 a8 a9 a10 b : Blk} {K : Nat → List Blk → Prop} (h : K (M.length + 11) (M ++ [a0, a1, a2, a3, a4, a5, a6, a7, a8, a9, a10, b])) : addB (M ++ [a0, a1, a2, a3, a4, a5, a6, a7, a8, a9, a10]) b K := addB_app h
theorem addB_f12 {M : List Blk} {a0 a1 a2 a3 a4 a5 a6 a7 a8 a9 a10 a11 b : Blk} {K : Nat → List Blk → Prop} (h : K (M.length + 12) (M ++ [a0, a1, a2, a3, a4, a5, a6, a7, a8, a9, a10, a11, b])) : addB (M ++ [a0, a1, a2, a3, a4, a5, a6, a7, a8, a9, a10, a11]) b K := addB_app h
theorem addB_f13 {M : List Blk} {a0 a1 a2 a3 a4 a5 a6 a7 a8 a9 a10 a11 a12 b : Blk} {K : Nat → List Blk → Prop} (h : K (M.length + 13) (M ++ [a0, a1, a2, a3, a4, a5, a6, a7, a8, a9, a10, a11, a12, b])) : addB (M ++ [a0, a1, a2, a3, a4, a5, a6, a7, a8, a9, a10, a11, a12]) b K := addB_app h
theorem bo_eqn {a b : Int} (h : a = b) : (a != b) = false := by simp [h]
/-- Memory that begins with the program's tables. -/
def Top (m : List Blk) : Prop := ∃ x, m = GG x
theorem Top.app {m : List Blk} (h : Top m) (x : List Blk) : Top (m ++ x) := by
  obtain ⟨y, rfl⟩ := h
  exact ⟨y ++ x, rfl⟩
theorem Top.ok {m : List Blk} {f : FuncId} {args : List V} {r : V} (h : Top m) (hc : ∀ x, COk Tryz.prog 3 f args (GG x) r (GG x)) : COk Tryz.prog 3 f args m r m := by
  obtain ⟨y, rfl⟩ := h
  exact hc y
end Go.Proofs.YtgoljofmbidkfaaGreatDoor
/- Package bits, sum and vec on the bits of floats. No condition. -/
namespace Go.Proofs.YtgoljofmbidkfaaGreatDoor
open Go Go.Eng
set_option maxRecDepth 100000
set_option linter.unusedSimpArgs false
set_option linter.unusedVariables false

abbrev F (b : Nat) : V := .fl (some b)
abbrev U (n : Int) : V := .int .u64 n
theorem f64bits_ok (b : Nat) (m : List Blk) : COk Tryz.prog 3 81 [F b] m (U b) m := by
  refine COk_ext fun n g w xs h => ?_
  obtain ⟨y, ys, rfl, ⟨c, rfl, rfl⟩, rfl⟩ := h
  refine ⟨.int .u64 c, w, by kernel_rfl, rfl, Drew.refl w⟩
theorem frombits_ok (b : Nat) (m : List Blk) : COk Tryz.prog 3 132 [U b] m (F b) m := by
  refine COk_ext fun n g w xs h => ?_
  obtain ⟨y, ys, rfl, rfl, rfl⟩ := h
  refine ⟨.float .f64 b, w, by kernel_rfl, ⟨b, rfl, rfl⟩, Drew.refl w⟩
def qn : Nat := 9221120237041090561
theorem quiet_ok (m : List Blk) : COk Tryz.prog 3 133 [] m (F qn) m := by
  refine COk_quiet Tryz.f133 Tryz.func133 (by kernel_rfl) rfl ?_
  conv => whnf
  refine ⟨_, _, frombits_ok _ _, ?_⟩
  conv => whnf
  exact ⟨rfl, [], by simp⟩
def canonF (o : Option Nat) : Nat := if fne o o = true then qn else if feq o (some 0) = true then 0 else o.getD 0
theorem canon_ok (o : Option Nat) (m : List Blk) : COk Tryz.prog 3 88 [.fl o] m (F (canonF o)) m := by
  refine COk_quiet Tryz.f88 Tryz.func88 (by kernel_rfl) rfl ?_
  conv => whnf
  refine br_intro (fun h => ?_) (fun h => ?_) <;> conv => whnf
  · refine ⟨_, _, quiet_ok _, ?_⟩
    conv => whnf
    exact ⟨by rw [canonF, if_pos h], [], by simp⟩
  refine br_intro (fun h' => ?_) (fun h' => ?_) <;> conv => whnf
  · exact ⟨by rw [canonF, if_neg (by rw [h]; decide), if_pos h'], [], by simp⟩
  · refine ⟨?_, [], by simp⟩
    rw [canonF, if_neg (by rw [h]; decide), if_neg (by rw [h']; decide)]
    cases o with
    | none => exact nomatch h
    | some b => rfl
theorem vcanon_ok (a b c : Option Nat) (x : List Blk) : COk Tryz.prog 3 167 [.fl a, .fl b, .fl c] (GG x) (.agg [F (canonF a), F (canonF b), F (canonF c)]) (GG x) := by
  refine lift ?_ rfl x
  refine COk_quiet Tryz.f167 Tryz.func167 (by kernel_rfl) rfl ?_
  conv => whnf
  refine ⟨_, _, canon_ok _ _, ?_⟩
  conv => whnf
  refine ⟨_, _, canon_ok _ _, ?_⟩
  conv => whnf
  refine ⟨_, _, canon_ok _ _, ?_⟩
  conv => whnf
  exact ⟨rfl, _, rfl⟩
/-- A vector of floats. -/
abbrev V3f (a b c : Nat) : V := .agg [F a, F b, F c]
structure W where
  x : Nat
  y : Nat
  z : Nat
deriving DecidableEq
abbrev W.v (a : W) : V := V3f a.x a.y a.z
def minusF (a b : W) : W := ⟨canonF (fsub (some a.x) (some b.x)), canonF (fsub (some a.y) (some b.y)), canonF (fsub (some a.z) (some b.z))⟩
theorem minus_ok (a b : W) (x : List Blk) : COk Tryz.prog 3 148 [a.v, b.v] (GG x) (minusF a b).v (GG x) := by
  refine lift ?_ rfl x
  refine COk_quiet Tryz.f148 Tryz.func148 (by kernel_rfl) rfl ?_
  conv => whnf
  refine ⟨_, _, vcanon_ok _ _ _ _, ?_⟩
  conv => whnf
  exact ⟨rfl, _, rfl⟩
def crossF (a b : W) : W :=
  ⟨canonF (fsub (fmul (some a.y) (some b.z)) (fmul (some a.z) (some b.y))), canonF (fsub (fmul (some a.z) (some b.x)) (fmul (some a.x) (some b.z))), canonF (fsub (fmul (some a.x) (some b.y)) (fmul (some a.y) (some b.x)))⟩
theorem vcross_ok (a b : W) (x : List Blk) : COk Tryz.prog 3 147 [a.v, b.v] (GG x) (crossF a b).v (GG x) := by
  refine lift ?_ rfl x
  refine COk_quiet Tryz.f147 Tryz.func147 (by kernel_rfl) rfl ?_
  conv => whnf
  refine ⟨_, _, vcanon_ok _ _ _ _, ?_⟩
  conv => whnf
  exact ⟨rfl, _, rfl⟩
/-! ### The order in which three numbers are added -/
def magW (b : Nat) : Int := IntKind.u64.wrap ((b : Int) * 2)
theorem magnitude_ok (b : Nat) (m : List Blk) : COk Tryz.prog 3 186 [F b] m (U (magW b)) m := by
  refine COk_quiet Tryz.f186 Tryz.func186 (by kernel_rfl) rfl ?_
  conv => whnf
  refine ⟨_, _, f64bits_ok _ _, ?_⟩
  conv => whnf
  exact ⟨rfl, [], by simp⟩
def cmpI (a b : Int) : Int := if a < b then -1 else if a > b then 1 else 0
theorem isnan64_ok (a : Int) (m : List Blk) : COk Tryz.prog 3 197 [U a] m (Bo false) m := by
  refine COk_quiet Tryz.f197 Tryz.func197 (by kernel_rfl) rfl ?_
  conv => whnf
  exact ⟨by congr 1; simp, [], by simp⟩
theorem cmp_ok (a b : Int) (m : List Blk) : COk Tryz.prog 3 185 [U a, U b] m (I (cmpI a b)) m := by
  refine COk_quiet Tryz.f185 Tryz.func185 (by kernel_rfl) rfl ?_
  conv => whnf
  refine ⟨_, _, isnan64_ok _ _, ?_⟩
  conv => whnf
  refine ⟨_, _, isnan64_ok _ _, ?_⟩
  conv => whnf
  refine br_di (fun h => ?_) (fun h => ?_) <;> conv => whnf
  · exact ⟨by rw [cmpI, if_pos h], [], by simp⟩
  refine br_di (fun h' => ?_) (fun h' => ?_) <;> conv => whnf
  · exact ⟨by rw [cmpI, if_neg h, if_pos h'], [], by simp⟩
  · exact ⟨by rw [cmpI, if_neg h, if_neg h'], [], by simp⟩
def placeW (b : Nat) : Int := if (b : Int) ≥ 9223372036854775808 then bitV .xor .u64 IntKind.u64.max b else bitV .or .u64 b 9223372036854775808
theorem place_ok (b : Nat) (m : List Blk) : COk Tryz.prog 3 198 [F b] m (U (placeW b)) m := by
  refine COk_quiet Tryz.f198 Tryz.func198 (by kernel_rfl) rfl ?_
  conv => whnf
  refine ⟨_, _, f64bits_ok _ _, ?_⟩
  conv => whnf
  refine br_di (fun h => ?_) (fun h => ?_) <;> conv => whnf
  · exact ⟨by rw [placeW, if_pos h]; rfl, [], by simp⟩
  · exact ⟨by rw [placeW, if_neg h], [], by simp⟩
def orderW (a b : Nat) : Int := cmpI (placeW a) (placeW b)
theorem order_ok (a b : Nat) (m : List Blk) : COk Tryz.prog 3 187 [F a, F b] m (I (orderW a b)) m := by
  refine COk_quiet Tryz.f187 Tryz.func187 (by kernel_rfl) rfl ?_
  conv => whnf
  refine ⟨_, _, place_ok _ _, ?_⟩
  conv => whnf
  refine ⟨_, _, place_ok _ _, ?_⟩
  conv => whnf
  refine ⟨_, _, cmp_ok _ _ _, ?_⟩
  conv => whnf
  exact ⟨rfl, [], by simp⟩
def or2 (a b : Int) : Int := if a ≠ 0 then a else b
theorem or_ok (a b : Int) : COk Tryz.prog 3 184 [.sl 3 0 2] (GG [⟨true, .cells [I a, I b]⟩]) (I (or2 a b)) (GG [⟨true, .cells [I a, I b]⟩]) := by
  refine COk_quiet Tryz.f184 Tryz.func184 (by kernel_rfl) rfl ?_
  conv => whnf
  refine lr ?_
  conv => whnf
  refine br_intro (fun h => ?_) (fun h => ?_) <;> conv => whnf
  · exact ⟨by rw [or2, if_pos (by simpa using h)], [], by simp⟩
  have ha : ¬ a ≠ 0 := by simpa using h
  refine lr ?_
  conv => whnf
  refine br_intro (fun h => ?_) (fun h => ?_) <;> conv => whnf
  · exact ⟨by rw [or2, if_neg ha], [], by simp⟩
  refine lr ?_
  conv => whnf
  have hb : b = 0 := by simpa using h
  exact ⟨by rw [or2, if_neg ha, hb], [], by simp⟩
/-- How two numbers stand: by their magnitudes, then by their places. -/
def cmpW (x y : Nat) : Int := or2 (cmpI (magW x) (magW y)) (orderW x y)
theorem three1_ok (a b : Nat) (x : List Blk) : COk Tryz.prog 3 183 [F a, F b] (GG x) (I (cmpW a b)) (GG x) := by
  refine lift ?_ rfl x
  refine COk_quiet Tryz.f183 Tryz.func183 (by kernel_rfl) rfl ?_
  conv => whnf
  refine ⟨_, _, magnitude_ok _ _, ?_⟩
  conv => whnf
  refine ⟨_, _, magnitude_ok _ _, ?_⟩
  conv => whnf
  refine ⟨_, _, cmp_ok _ _ _, ?_⟩
  conv => whnf
  refine ⟨_, _, order_ok _ _ _, ?_⟩
  conv => whnf
  refine ⟨_, _, or_ok _ _, ?_⟩
  conv => whnf
  exact ⟨rfl, _, rfl⟩
/-- Three numbers in their order. -/
def sort3 (a b c : Nat) : List Nat :=
  if cmpW b a < 0 then (if cmpW c a < 0 then (if cmpW c b < 0 then [c, b, a] else [b, c, a]) else [b, a, c])
  else (if cmpW c b < 0 then (if cmpW c a < 0 then [c, a, b] else [a, c, b]) else [a, b, c])
/-- A row of floats. -/
def rowF (l : List Nat) : List V := l.map F
abbrev Fl3 (l : List Nat) : Blk := ⟨true, .cells (rowF l)⟩
theorem sc_sort3 (a b c : Nat) : scM 4 (GG [Fl3 (sort3 a b c)]) = true := by
  unfold sort3
  repeat' split
  all_goals rfl
theorem insert_ok (a b c : Nat) : COk Tryz.prog 3 206 [.sl 3 0 3, I 0, I 3, .clo (.func 183) [] []] (GG [Fl3 [a, b, c]]) (.tup []) (GG [Fl3 (sort3 a b c)]) := by
  refine COk_of_ev Tryz.f206 Tryz.func206 (by kernel_rfl) (Nat.le_refl 4) ?_ ?_ ?_
  · rfl
  · exact .inr (sc_sort3 a b c)
  conv => whnf
  refine lr ?_
  conv => whnf
  refine lr ?_
  conv => whnf
  refine ⟨_, three1_ok _ _ _, ?_⟩
  conv => whnf
  refine br_di (fun h1 => ?_) (fun h1 => ?_) <;> conv => whnf
  · have h1' : cmpW b a < 0 := h1
    refine lr ?_
    conv => whnf
    refine lr ?_
    conv => whnf
    refine lr ?_
    conv => whnf
    refine ⟨_, three1_ok _ _ _, ?_⟩
    conv => whnf
    refine br_di (fun h2 => ?_) (fun h2 => ?_) <;> conv => whnf
    · have h2' : cmpW c a < 0 := h2
      refine lr ?_
      conv => whnf
      refine ⟨_, three1_ok _ _ _, ?_⟩
      conv => whnf
      refine br_di (fun h3 => ?_) (fun h3 => ?_) <;> conv => whnf
      · have h3' : cmpW c b < 0 := h3
        refine lr ?_
        conv => whnf
        refine lr ?_
        conv => whnf
        refine ⟨rfl, [], ?_⟩
        rw [sort3, if_pos h1', if_pos h2', if_pos h3']
        rfl
      · have h3' : ¬ cmpW c b < 0 := h3
        refine lr ?_
        conv => whnf
        refine ⟨rfl, [], ?_⟩
        rw [sort3, if_pos h1', if_pos h2', if_neg h3']
        rfl
    · have h2' : ¬ cmpW c a < 0 := h2
      refine lr ?_
      conv => whnf
      refine ⟨rfl, [], ?_⟩
      rw [sort3, if_pos h1', if_neg h2']
      rfl
  · have h1' : ¬ cmpW b a < 0 := h1
    refine lr ?_
    conv => whnf
    refine lr ?_
    conv => whnf
    refine ⟨_, three1_ok _ _ _, ?_⟩
    conv => whnf
    refine br_di (fun h2 => ?_) (fun h2 => ?_) <;> conv => whnf
    · have h2' : cmpW c b < 0 := h2
      refine lr ?_
      conv => whnf
      refine ⟨_, three1_ok _ _ _, ?_⟩
      conv => whnf
      refine br_di (fun h3 => ?_) (fun h3 => ?_) <;> conv => whnf
      · have h3' : cmpW c a < 0 := h3
        refine lr ?_
        conv => whnf
        refine lr ?_
        conv => whnf
        refine ⟨rfl, [], ?_⟩
        rw [sort3, if_neg h1', if_pos h2', if_pos h3']
        rfl
      · have h3' : ¬ cmpW c a < 0 := h3
        refine lr ?_
        conv => whnf
        refine ⟨rfl, [], ?_⟩
        rw [sort3, if_neg h1', if_pos h2', if_neg h3']
        rfl
    · have h2' : ¬ cmpW c b < 0 := h2
      refine lr ?_
      conv => whnf
      refine ⟨rfl, [], ?_⟩
      rw [sort3, if_neg h1', if_neg h2']
      rfl
theorem pdq_ok (a b c : Nat) (l : V) (hl : V.sc 4 l = true): COk Tryz.prog 3 195 [.sl 3 0 3, I 0, I 3, l, .clo (.func 183) [] []] (GG [Fl3 [a, b, c]]) (.tup []) (GG [Fl3 (sort3 a b c)]) := by
  refine COk_of_ev Tryz.f195 Tryz.func195 (by kernel_rfl) (Nat.le_refl 4) ?_ ?_ ?_
  · rfl
  · exact .inr (sc_sort3 a b c)
  conv => whnf
  refine lr ?_
  conv => whnf
  refine ⟨_, _, insert_ok a b c, ?_⟩
  conv => whnf
  exact ⟨rfl, [], rfl⟩
theorem len64_ok (m : List Blk) : COk Tryz.prog 3 215 [U 3] m (I 2) m := by
  refine COk_quiet Tryz.f215 Tryz.func215 (by kernel_rfl) rfl ?_
  conv => whnf
  exact ⟨rfl, [], by simp⟩
theorem len_ok (m : List Blk) : COk Tryz.prog 3 196 [U 3] m (I 2) m := by
  refine COk_quiet Tryz.f196 Tryz.func196 (by kernel_rfl) rfl ?_
  conv => whnf
  refine ⟨_, _, len64_ok _, ?_⟩
  conv => whnf
  exact ⟨rfl, [], by simp⟩
theorem sortfunc_ok (a b c : Nat) : COk Tryz.prog 3 182 [.sl 3 0 3, .clo (.func 183) [] []] (GG [Fl3 [a, b, c]]) (.tup []) (GG [Fl3 (sort3 a b c)]) := by
  refine COk_of_ev Tryz.f182 Tryz.func182 (by kernel_rfl) (Nat.le_refl 4) ?_ ?_ ?_
  · rfl
  · exact .inr (sc_sort3 a b c)
  conv => whnf
  refine ⟨_, _, len_ok _, ?_⟩
  conv => whnf
  refine ⟨_, _, pdq_ok a b c _ rfl, ?_⟩
  conv => whnf
  exact ⟨rfl, [], rfl⟩
theorem isnan_ok (o : Option Nat) (m : List Blk) : COk Tryz.prog 3 143 [.fl o] m (Bo (fne o o)) m := by
  refine COk_quiet Tryz.f143 Tryz.func143 (by kernel_rfl) rfl ?_
  conv => whnf
  exact ⟨rfl, [], by simp⟩
def quietF (o : Option Nat) : Nat := if fne o o = true then qn else o.getD 0
theorem squiet_ok (o : Option Nat) (m : List Blk) : COk Tryz.prog 3 199 [.fl o] m (F (quietF o)) m := by
  refine COk_quiet Tryz.f199 Tryz.func199 (by kernel_rfl) rfl ?_
  conv => whnf
  refine ⟨_, _, isnan_ok _ _, ?_⟩
  conv => whnf
  refine br_intro (fun h => ?_) (fun h => ?_) <;> conv => whnf
  · refine ⟨_, _, frombits_ok _ _, ?_⟩
    conv => whnf
    exact ⟨by rw [quietF, if_pos h]; rfl, [], by simp⟩
  · refine ⟨?_, [], by simp⟩
    rw [quietF, if_neg (by rw [h]; decide)]
    cases o with
    | none => exact nomatch h
    | some b => rfl
/-- Three numbers from the first on. -/
def row3 (l : List Nat) : Nat := quietF (fadd (fadd (some (l.getD 0 0)) (some (l.getD 1 0))) (some (l.getD 2 0)))
theorem row_ok (l : List Nat) (hl : l.length = 3) : COk Tryz.prog 3 188 [.sl 3 0 3] (GG [Fl3 l]) (F (row3 l)) (GG [Fl3 l]) := by
  obtain ⟨a, b, c, rfl⟩ : ∃ a b c, l = [a, b, c] := by
    match l, hl with
    | [a, b, c], _ => exact ⟨a, b, c, rfl⟩
  refine COk_quiet Tryz.f188 Tryz.func188 (by kernel_rfl) rfl ?_
  conv => whnf
  refine lr ?_
  conv => whnf
  refine lr ?_
  conv => whnf
  refine lr ?_
  conv => whnf
  refine ⟨_, _, squiet_ok _ _, ?_⟩
  conv => whnf
  exact ⟨rfl, [], by simp⟩
theorem sort3_length (a b c : Nat) : (sort3 a b c).length = 3 := by
  unfold sort3
  repeat' split
  all_goals rfl
def threeF (a b c : Nat) : Nat := row3 (sort3 a b c)
theorem three_ok (a b c : Nat) (x : List Blk) : COk Tryz.prog 3 166 [F a, F b, F c] (GG x) (F (threeF a b c)) (GG x) := by
  refine lift ?_ rfl x
  refine COk_quiet Tryz.f166 Tryz.func166 (by kernel_rfl) rfl ?_
  conv => whnf
  refine ⟨_, _, sortfunc_ok a b c, ?_⟩
  conv => whnf
  refine ⟨_, _, row_ok _ (sort3_length a b c), ?_⟩
  conv => whnf
  exact ⟨rfl, _, rfl⟩

theorem fadd_nan_l {x : Nat} (h : nanB x) (o : Option Nat) : fadd (some x) o = none := by
  cases o with
  | none => rfl
  | some y => exact add_nan_l x y h
theorem fadd_nan_r {x : Nat} (h : nanB x) (o : Option Nat) : fadd o (some x) = none := by
  cases o with
  | none => rfl
  | some y => exact add_nan_r y x h
theorem fadd_none_l (o : Option Nat) : fadd none o = none := rfl
theorem row3_nan {x y z : Nat} (h : nanB x ∨ nanB y ∨ nanB z) : row3 [x, y, z] = qn := by
  unfold row3
  simp only [List.getD_cons_zero, List.getD_cons_succ]
  rcases h with h | h | h
  · rw [fadd_nan_l h, fadd_none_l]; rfl
  · rw [fadd_nan_r h, fadd_none_l]; rfl
  · rw [fadd_nan_r h]; rfl
theorem threeF_nan {a b c : Nat} (h : nanB a ∨ nanB b ∨ nanB c) : threeF a b c = qn := by
  unfold threeF sort3
  repeat' split
  all_goals
    apply row3_nan
    rcases h with h | h | h <;> simp [h]
def threeO : Option Nat → Option Nat → Option Nat → Nat
  | some a, some b, some c => threeF a b c
  | _, _, _ => qn
theorem threeO_of {a b c : Option Nat} {x y z : Nat} (ha : fden a x) (hb : fden b y) (hc : fden c z) : threeF x y z = threeO a b c := by
  cases a with
  | none => exact threeF_nan (.inl ha)
  | some a =>
    cases ha
    cases b with
    | none => exact threeF_nan (.inr (.inl hb))
    | some b =>
      cases hb
      cases c with
      | none => exact threeF_nan (.inr (.inr hc))
      | some c => cases hc; rfl
theorem threeO_ok (a b c : Option Nat) (x : List Blk) : COk Tryz.prog 3 166 [.fl a, .fl b, .fl c] (GG x) (F (threeO a b c)) (GG x) := by
  refine COk_bits [] fun x1 h1 => COk_bits [F x1] fun x2 h2 => COk_bits [F x1, F x2] fun x3 h3 => ?_
  rw [← threeO_of h1 h2 h3]
  exact three_ok x1 x2 x3 x
theorem msqrt_ok (o : Option Nat) (m : List Blk) : COk Tryz.prog 3 181 [.fl o] m (.fl (fsqrt o)) m := by
  refine COk_ext fun n g w xs h => ?_
  obtain ⟨y, ys, rfl, ⟨c, h1, rfl⟩, rfl⟩ := h
  have e : f64.sqrt c = fsqrt o := by
    cases o with
    | some a => cases h1; rfl
    | none =>
      obtain ⟨s, f, e⟩ := read_nan h1
      simp only [Ieee.Format.sqrt, e]
      rfl
  have key : (callFunc 181 #[.float .f64 c]).run Tryz.prog w = ((match f64.sqrt c with | some r => (pure (.float .f64 r) : Sem Value) | none => do pure (.float .f64 (← choose (.nanBits .f64 c c)))) >>= fun v => (pure (Next.value v) : Sem Next)).run Tryz.prog w := by kernel_rfl
  show ∃ x w', (callFunc 181 #[.float .f64 c]).run Tryz.prog w = _ ∧ _
  rw [key, Sem.run_bind]
  rw [← e]
  cases hc : f64.sqrt c with
  | some r => exact ⟨.float .f64 r, w, by simp, ⟨r, rfl, rfl⟩, .refl w⟩
  | none => exact ⟨_, _, by simp [Question.forced]; rfl, ⟨_, nan_cut c c (w.tape w.drawn (.nanBits .f64 c c)), rfl⟩, ⟨_, rfl⟩⟩
theorem sqrt_ok (o : Option Nat) (m : List Blk) : COk Tryz.prog 3 165 [.fl o] m (.fl (fsqrt o)) m := by
  refine COk_quiet Tryz.f165 Tryz.func165 (by kernel_rfl) rfl ?_
  conv => whnf
  refine ⟨_, _, msqrt_ok _ _, ?_⟩
  conv => whnf
  exact ⟨rfl, [], by simp⟩
def lenF (a : W) : Nat := canonF (fsqrt (some (threeO (fmul (some a.x) (some a.x)) (fmul (some a.y) (some a.y)) (fmul (some a.z) (some a.z)))))
theorem length_ok (a : W) (x : List Blk) : COk Tryz.prog 3 146 [a.v] (GG x) (F (lenF a)) (GG x) := by
  refine lift ?_ rfl x
  refine COk_quiet Tryz.f146 Tryz.func146 (by kernel_rfl) rfl ?_
  conv => whnf
  refine ⟨_, _, threeO_ok _ _ _ _, ?_⟩
  conv => whnf
  refine ⟨_, _, sqrt_ok _ _, ?_⟩
  conv => whnf
  refine ⟨_, _, canon_ok _ _, ?_⟩
  conv => whnf
  exact ⟨rfl, _, rfl⟩
def gapF (a b : W) : Nat := lenF (minusF a b)
theorem vgap_ok (a b : W) (x : List Blk) : COk Tryz.prog 3 113 [a.v, b.v] (GG x) (F (gapF a b)) (GG x) := by
  refine lift ?_ rfl x
  refine COk_quiet Tryz.f113 Tryz.func113 (by kernel_rfl) rfl ?_
  conv => whnf
  refine ⟨_, _, minus_ok a b _, ?_⟩
  conv => whnf
  refine ⟨_, _, length_ok (minusF a b) _, ?_⟩
  conv => whnf
  exact ⟨rfl, _, rfl⟩
theorem isinf_ok (o : Option Nat) (m : List Blk) : COk Tryz.prog 3 189 [.fl o, I 1] m (Bo (fgt o (some 9218868437227405311))) m := by
  refine COk_quiet Tryz.f189 Tryz.func189 (by kernel_rfl) rfl ?_
  conv => whnf
  exact ⟨rfl, [], by simp⟩
def unitF (a : W) : W :=
  if (fgt (some (lenF a)) (some 0) && !fgt (some (lenF a)) (some 9218868437227405311)) = true then
    ⟨canonF (fdiv (some a.x) (some (lenF a))), canonF (fdiv (some a.y) (some (lenF a))), canonF (fdiv (some a.z) (some (lenF a)))⟩
  else ⟨0, 0, 0⟩
theorem unit_ok (a : W) (x : List Blk) : COk Tryz.prog 3 168 [a.v] (GG x) (unitF a).v (GG x) := by
  refine lift ?_ rfl x
  refine COk_quiet Tryz.f168 Tryz.func168 (by kernel_rfl) rfl ?_
  conv => whnf
  refine ⟨_, _, length_ok a _, ?_⟩
  conv => whnf
  refine br_not (br_intro (fun h => ?_) (fun h => ?_)) <;> conv => whnf
  · refine ⟨_, _, isinf_ok _ _, ?_⟩
    conv => whnf
    refine br_intro (fun h' => ?_) (fun h' => ?_) <;> conv => whnf
    · exact ⟨by rw [unitF, if_neg (by rw [h, h']; decide)], _, rfl⟩
    · refine ⟨_, _, vcanon_ok _ _ _ _, ?_⟩
      conv => whnf
      exact ⟨by rw [unitF, if_pos (by rw [h, h']; decide)], _, rfl⟩
  · exact ⟨by rw [unitF, if_neg (by rw [h]; simp)], _, rfl⟩
end Go.Proofs.YtgoljofmbidkfaaGreatDoor
/- Floats by sign and rung: what a change of sign does. No condition. -/
namespace Go.Proofs.YtgoljofmbidkfaaGreatDoor
open Go Go.Eng
set_option maxRecDepth 100000
set_option linter.unusedSimpArgs false
set_option linter.unusedVariables false

theorem xor_top {R : Nat} (h : R < 2 ^ 63) : R ^^^ 2 ^ 63 = 2 ^ 63 + R := by
  apply Nat.eq_of_testBit_eq
  intro i
  rw [Nat.testBit_xor, Nat.testBit_two_pow]
  rcases Nat.lt_trichotomy i 63 with h1 | h1 | h1
  · have h2 : ¬ 63 = i := by omega
    rw [Nat.testBit_two_pow_add_gt h1]
    simp [h2]
  · subst h1
    rw [Nat.testBit_two_pow_add_eq, Nat.testBit_lt_two_pow h]
    simp
  · have h2 : R < 2 ^ i := Nat.lt_trans h (Nat.pow_lt_pow_right (by decide) h1)
    have h3 : 2 ^ 63 + R < 2 ^ i := by
      have : 2 ^ 64 ≤ 2 ^ i := Nat.pow_le_pow_right (by decide) h1
      omega
    have h4 : ¬ 63 = i := by omega
    rw [Nat.testBit_lt_two_pow h2, Nat.testBit_lt_two_pow h3]
    simp [h4]
abbrev wd (s : Bool) (R : Nat) : Nat := f64.word s R
theorem wd_true (R : Nat) : wd true R = 2 ^ 63 + R := rfl
theorem wd_false (R : Nat) : wd false R = R := rfl
theorem neg_wd (s : Bool) {R : Nat} (h : R < 2 ^ 63) : Op.negFloat .f64 (wd s R) = wd (!s) R := by
  cases s
  · show R ^^^ 2 ^ 63 = 2 ^ 63 + R
    exact xor_top h
  · show (2 ^ 63 + R) ^^^ 2 ^ 63 = R
    rw [← xor_top h, Nat.xor_assoc, Nat.xor_self, Nat.xor_zero]
abbrev infR : Nat := f64.infRung
theorem infR_eq : infR = 9218868437227405312 := by decide
/-- What sign and rung stand for. -/
def dat (s : Bool) (R : Nat) : Ieee.Datum :=
  if R < f64.binade then .number s R f64.leastPlace
  else if R < infR then .number s (f64.binade + R % f64.binade) (f64.leastPlace + (R / f64.binade - 1 : Nat))
  else if R = infR then .infinity s
  else .nan s (R - infR)
theorem read_wd (s : Bool) {R : Nat} (h : R < 2 ^ 63) : f64.read (wd s R) = dat s R := by
  have e1 : wd s R / f64.signWeight % 2 = s.toNat := by
    have : f64.signWeight = 2 ^ 63 := by decide
    rw [this]
    cases s
    · rw [wd_false]; simp; omega
    · rw [wd_true]; simp; omega
  have e2 : wd s R % f64.signWeight = R := by
    have : f64.signWeight = 2 ^ 63 := by decide
    rw [this]
    cases s
    · rw [wd_false]; omega
    · rw [wd_true]; omega
  unfold Ieee.Format.read
  simp only [e1, e2]
  cases s <;> rfl
theorem nearest_signF (f : Ieee.Format) (s : Bool) (m : Nat) (e : Int) : f.nearest s m e = f.word s (f.nearest false m e) := by
  unfold Ieee.Format.nearest
  split
  · rfl
  · rfl
theorem nearest_leF (f : Ieee.Format) (m : Nat) (e : Int) : f.nearest false m e ≤ f.infRung := by
  unfold Ieee.Format.nearest
  split
  · exact Nat.zero_le _
  · exact Nat.min_le_right _ _
theorem nearest_sign (s : Bool) (m : Nat) (e : Int) : f64.nearest s m e = wd s (f64.nearest false m e) := nearest_signF f64 s m e
theorem nearest_le (m : Nat) (e : Int) : f64.nearest false m e ≤ infR := nearest_leF f64 m e
theorem cmp_eq (a b : Int) : compare a b = .eq ↔ a = b := by
  show compareOfLessAndEq a b = .eq ↔ a = b
  unfold compareOfLessAndEq
  split
  · simp; omega
  · split <;> simp_all
theorem order_self (d : Ieee.Datum) (h : d.isNaN = false) : d.order d = some .eq := by
  cases d with
  | nan => exact nomatch h
  | infinity s => cases s <;> rfl
  | number s m i =>
    simp only [Ieee.Datum.order]
    rw [(cmp_eq _ _).mpr rfl]
theorem signed_zero (s : Bool) (m k : Nat) : Ieee.signed s m k = 0 ↔ m = 0 := by
  have h : m <<< k = 0 ↔ m = 0 := by
    rw [Nat.shiftLeft_eq]
    have := Nat.two_pow_pos k
    constructor
    · intro h
      rcases Nat.mul_eq_zero.mp h with h | h
      · exact h
      · omega
    · intro h; subst h; simp
  cases s
  · simp only [Ieee.signed, Bool.false_eq_true, if_false]
    rw [← h]; omega
  · simp only [Ieee.signed, if_true]
    rw [← h]; omega
theorem order_zero (d : Ieee.Datum) (e : Int) : d.order (.number false 0 e) = some .eq ↔ d.isZero = true := by
  cases d with
  | nan => simp [Ieee.Datum.order, Ieee.Datum.isZero]
  | infinity s => cases s <;> simp [Ieee.Datum.order, Ieee.Datum.isZero]
  | number s m i =>
    simp only [Ieee.Datum.order, Option.some.injEq, cmp_eq]
    have : Ieee.signed false 0 (e - min i e).toNat = 0 := (signed_zero _ _ _).mpr rfl
    rw [this, signed_zero]
    cases m <;> simp [Ieee.Datum.isZero]
theorem binade_eq : f64.binade = 4503599627370496 := by decide
theorem dat_nan (s : Bool) {R : Nat} (h : R ≤ infR) : (dat s R).isNaN = false := by
  unfold dat
  split
  · rfl
  · split
    · rfl
    · split
      · rfl
      · exact absurd h (by omega)
theorem dat_zero (s : Bool) (R : Nat) : (dat s R).isZero = true ↔ R = 0 := by
  have hb := binade_eq
  unfold dat
  split
  · cases R <;> simp [Ieee.Datum.isZero]
  · rename_i h1
    have hR : R ≠ 0 := by rintro rfl; omega
    split
    · have : f64.binade + R % f64.binade ≠ 0 := by omega
      generalize f64.binade + R % f64.binade = m at *
      cases m with
      | zero => exact absurd rfl this
      | succ m => simp [Ieee.Datum.isZero, hR]
    · split
      · simp only [Ieee.Datum.isZero]; simp [hR]
      · simp only [Ieee.Datum.isZero]; simp [hR]
def cw (s : Bool) (R : Nat) : Nat := if R = 0 then 0 else wd s R
theorem fcmp_wd (s t : Bool) {R Q : Nat} (hR : R < 2 ^ 63) (hQ : Q < 2 ^ 63) : fcmp (some (wd s R)) (some (wd t Q)) = (dat s R).order (dat t Q) := by
  show (f64.read _).order (f64.read _) = _
  rw [read_wd s hR, read_wd t hQ]
theorem dat_0 : dat false 0 = .number false 0 f64.leastPlace := rfl
theorem canon_wd (s : Bool) {R : Nat} (h : R ≤ infR) : canonF (some (wd s R)) = cw s R := by
  have hi := infR_eq
  have h63 : R < 2 ^ 63 := by omega
  have e1 : fne (some (wd s R)) (some (wd s R)) = false := by
    unfold fne
    rw [fcmp_wd s s h63 h63, order_self _ (dat_nan s h)]
    rfl
  unfold canonF
  rw [if_neg (by rw [e1]; decide)]
  have e2 : feq (some (wd s R)) (some 0) = true ↔ R = 0 := by
    unfold feq
    rw [show (0 : Nat) = wd false 0 from rfl, fcmp_wd s false h63 (by decide), dat_0, beq_iff_eq, order_zero, dat_zero]
    rfl
  by_cases hz : R = 0
  · rw [if_pos (e2.mpr hz), cw, if_pos hz]
  · rw [if_neg (fun h => hz (e2.mp h)), cw, if_neg hz]
    rfl
/-- A float turned to its opposite; no nought with a sign. -/
def negF (a : Nat) : Nat := canonF (fneg (some a))
theorem negF_cw (s : Bool) {R : Nat} (h : R ≤ infR) : negF (cw s R) = cw (!s) R := by
  have hi := infR_eq
  unfold negF cw
  by_cases hz : R = 0
  · rw [if_pos hz, if_pos hz]
    show canonF (some (Op.negFloat .f64 (wd false 0))) = 0
    rw [neg_wd false (by decide), canon_wd _ (Nat.zero_le _)]
    rfl
  · rw [if_neg hz, if_neg hz]
    show canonF (some (Op.negFloat .f64 (wd s R))) = _
    rw [neg_wd s (by omega), canon_wd _ h, cw, if_neg hz]
/-- What may stand in a vector: a float that is no NaN, no -0. -/
def Good (a : Nat) : Prop := ∃ s R, R ≤ infR ∧ a = cw s R
theorem Good.neg {a : Nat} (h : Good a) : Good (negF a) := by
  obtain ⟨s, R, h1, rfl⟩ := h
  exact ⟨!s, R, h1, negF_cw s h1⟩
/-- The same datum, but for the sign of a nought. -/
def EqZ (d d' : Ieee.Datum) : Prop := d = d' ∨ ∃ s s' e e', d = .number s 0 e ∧ d' = .number s' 0 e'
theorem EqZ.trans {a b c : Ieee.Datum} (h : EqZ a b) (k : EqZ b c) : EqZ a c := by
  rcases h with rfl | ⟨s, s', e, e', rfl, rfl⟩
  · exact k
  · rcases k with rfl | ⟨t, t', f, f', h1, rfl⟩
    · exact .inr ⟨_, _, _, _, rfl, rfl⟩
    · exact .inr ⟨_, _, _, _, rfl, rfl⟩
theorem EqZ.symm {a b : Ieee.Datum} (h : EqZ a b) : EqZ b a := by
  rcases h with rfl | ⟨s, s', e, e', rfl, rfl⟩
  · exact .inl rfl
  · exact .inr ⟨_, _, _, _, rfl, rfl⟩
/-- The same datum, but for a nought's sign; the place is the same. -/
def ZS (x y : Ieee.Datum) : Prop := x = y ∨ ∃ s s' e, x = .number s 0 e ∧ y = .number s' 0 e
theorem wrap_u {n : Int} (h1 : 0 ≤ n) (h2 : n < 18446744073709551616) : IntKind.u64.wrap n = n := by
  have key : ∀ m : Int, n % (2 ^ 64 : Int) = m → IntKind.u64.wrap n = if (false && decide (m ≥ (2 ^ 63 : Int))) = true then m - 2 ^ 64 else m := fun m h => by rw [← h]; rfl
  rw [key _ (Int.emod_eq_of_lt h1 (by omega)), if_neg (by simp)]
/-- A vector of good floats. -/
structure GoodW (a : W) : Prop where
  x : Good a.x
  y : Good a.y
  z : Good a.z
end Go.Proofs.YtgoljofmbidkfaaGreatDoor
/- Package cube: the contracts of its functions. No condition. -/
namespace Go.Proofs.YtgoljofmbidkfaaGreatDoor
open Go Go.Eng
set_option maxRecDepth 100000
set_option linter.unusedSimpArgs false
set_option linter.unusedVariables false

theorem good_ok (side : Int) (m : List Blk) : COk Tryz.prog 3 109 [I side] m (Bo (decide (1 ≤ side ∧ side ≤ 32))) m := by
  refine COk_quiet Tryz.f109 Tryz.func109 (by kernel_rfl) rfl ?_
  conv => whnf
  refine br_intro ?_ ?_ <;> intro h <;> conv => whnf
  · have h1 := of_dec h
    exact ⟨by congr 1; rw [decide_eq_decide]; omega, [], by simp⟩
  · have h1 := of_ndec h
    exact ⟨by congr 1; symm; rw [decide_eq_false_iff_not]; omega, [], by simp⟩
def cellsI (side : Int) : Int := if 1 ≤ side ∧ side ≤ 32 then 6 * (side * side) else 0
theorem sq_bound {n : Int} (h1 : 0 ≤ n) (h2 : n ≤ 32) : 0 ≤ n * n ∧ n * n ≤ 1024 := by
  constructor
  · exact Int.mul_nonneg h1 h1
  · calc n * n ≤ 32 * 32 := Int.mul_le_mul h2 h2 h1 (by omega)
      _ = 1024 := by decide
theorem cells_ok (side : Int) (m : List Blk) : COk Tryz.prog 3 50 [I side] m (I (cellsI side)) m := by
  refine COk_quiet Tryz.f50 Tryz.func50 (by kernel_rfl) rfl ?_
  conv => whnf
  refine ⟨_, _, good_ok _ _, ?_⟩
  conv => whnf
  refine br_intro ?_ ?_ <;> intro h <;> conv => whnf
  · refine ⟨?_, [], by simp⟩
    have h1 : ¬ (1 ≤ side ∧ side ≤ 32) := by
      simp only [Bool.not_eq_true', decide_eq_false_iff_not] at h; exact h
    rw [cellsI, if_neg h1]
  · refine ⟨?_, [], by simp⟩
    have h1 : 1 ≤ side ∧ side ≤ 32 := by simpa using h
    have h2 := sq_bound (n := side) (by omega) h1.2
    have e : 6 * side * side = 6 * (side * side) := by rw [Int.mul_assoc]
    rw [cellsI, if_pos h1, wrap_id (n := 6 * side) (by omega) (by omega), e, wrap_id (by omega) (by omega)]
/-- The number of a cell. -/
def cellN (n f i j : Nat) : Nat := (f * n + j) * n + i
theorem cellN_lt {n f i j : Nat} (hf : f < 6) (hi : i < n) (hj : j < n) : cellN n f i j < 6 * (n * n) := by
  unfold cellN
  have h1 : f * n + j < 6 * n := by
    calc f * n + j < f * n + n := by omega
      _ = (f + 1) * n := by rw [Nat.add_mul, Nat.one_mul]
      _ ≤ 6 * n := Nat.mul_le_mul_right n (by omega)
  calc (f * n + j) * n + i < (f * n + j) * n + n := by omega
    _ = (f * n + j + 1) * n := by rw [Nat.add_mul (f * n + j) 1, Nat.one_mul]
    _ ≤ 6 * n * n := Nat.mul_le_mul_right n (by omega)
    _ = 6 * (n * n) := Nat.mul_assoc ..
theorem cell_in (n f i j : Nat) (hn : 1 ≤ n) (hn' : n ≤ 32) (hf : f < 6) (hi : i < n) (hj : j < n) (m : List Blk) : COk Tryz.prog 3 98 [I n, I f, I i, I j] m (I (cellN n f i j)) m := by
  refine COk_quiet Tryz.f98 Tryz.func98 (by kernel_rfl) rfl ?_
  conv => whnf
  refine ⟨_, _, good_ok _ _, ?_⟩
  conv => whnf
  refine br_not (br_d (by omega) ?_)
  conv => whnf
  refine br_nd (by omega) ?_
  conv => whnf
  refine br_nd (by omega) ?_
  conv => whnf
  refine br_nd (by omega) ?_
  conv => whnf
  refine ⟨?_, [], by simp⟩
  have h1 : f * n ≤ 5 * 32 := Nat.mul_le_mul (by omega) hn'
  have h2 : (f * n + j) * n ≤ (5 * 32 + 32) * 32 := Nat.mul_le_mul (by omega) hn'
  have h1' : (f : Int) * n ≤ 160 := by exact_mod_cast h1
  have h1'' : (0 : Int) ≤ (f : Int) * n := by exact_mod_cast Nat.zero_le (f * n)
  have h2' : ((f : Int) * n + j) * n ≤ 6144 := by exact_mod_cast h2
  have h2'' : (0 : Int) ≤ ((f : Int) * n + j) * n := by exact_mod_cast Nat.zero_le ((f * n + j) * n)
  rw [wrap_id (n := (f : Int) * n) (by omega) (by omega), wrap_id (n := (f : Int) * n + j) (by omega) (by omega), wrap_id (n := ((f : Int) * n + j) * n) (by omega) (by omega), wrap_id (by omega) (by omega)]
  congr 1
theorem cell_at (n f i j : Nat) {a b : Int} (ha : a = i) (hb : b = j) (hn : 1 ≤ n) (hn' : n ≤ 32) (hf : f < 6) (hi : i < n) (hj : j < n) (m : List Blk) : COk Tryz.prog 3 98 [I n, I f, I a, I b] m (I (cellN n f i j)) m := by
  subst ha hb; exact cell_in n f i j hn hn' hf hi hj m
theorem cell_to (n f : Nat) {a b : Int} (ha : 0 ≤ a ∧ a < n) (hb : 0 ≤ b ∧ b < n) (hn' : n ≤ 32) (hf : f < 6) (m : List Blk) : COk Tryz.prog 3 98 [I n, I f, I a, I b] m (I (cellN n f a.toNat b.toNat)) m :=
  cell_at n f _ _ (by omega) (by omega) (by omega) hn' hf (by omega) (by omega) m
theorem cell_no (side face i j : Int) (h : ¬ ((1 ≤ side ∧ side ≤ 32) ∧ (0 ≤ face ∧ face < 6) ∧ (0 ≤ i ∧ i < side) ∧ 0 ≤ j ∧ j < side)) (m : List Blk) : COk Tryz.prog 3 98 [I side, I face, I i, I j] m (I (-1)) m := by
  refine COk_quiet Tryz.f98 Tryz.func98 (by kernel_rfl) rfl ?_
  conv => whnf
  refine ⟨_, _, good_ok _ _, ?_⟩
  conv => whnf
  refine br_not (br_di (fun h1 => ?_) (fun h1 => ?_)) <;> conv => whnf
  · refine br_di (fun h2 => ?_) (fun h2 => ?_) <;> conv => whnf
    · exact ⟨rfl, [], by simp⟩
    refine br_di (fun h3 => ?_) (fun h3 => ?_) <;> conv => whnf
    · exact ⟨rfl, [], by simp⟩
    refine br_di (fun h4 => ?_) (fun h4 => ?_) <;> conv => whnf
    · exact ⟨rfl, [], by simp⟩
    refine br_di (fun h5 => ?_) (fun h5 => ?_) <;> conv => whnf
    · exact ⟨rfl, [], by simp⟩
    refine br_di (fun h6 => ?_) (fun h6 => ?_) <;> conv => whnf
    · exact ⟨rfl, [], by simp⟩
    refine br_di (fun h7 => ?_) (fun h7 => ?_) <;> conv => whnf
    · exact ⟨rfl, [], by simp⟩
    omega
  · exact ⟨rfl, [], by simp⟩
theorem place_in (n f i j : Nat) (hn : 1 ≤ n) (hn' : n ≤ 32) (hf : f < 6) (hi : i < n) (hj : j < n) (m : List Blk) : COk Tryz.prog 3 95 [I n, I (cellN n f i j)] m (.tup [I f, I i, I j, Bo true]) m := by
  have hlt := cellN_lt hf hi hj
  have hcI : cellsI n = ((6 * (n * n) : Nat) : Int) := by
    rw [cellsI, if_pos ⟨by omega, by omega⟩]; simp
  have hs := sq_bound (n := (n : Int)) (by omega) (by omega)
  have hpos : 0 < n * n := Nat.mul_pos hn hn
  refine COk_quiet Tryz.f95 Tryz.func95 (by kernel_rfl) rfl ?_
  conv => whnf
  refine ⟨_, _, cells_ok _ _, ?_⟩
  conv => whnf
  refine br_nd (by rw [hcI]; omega) ?_
  conv => whnf
  have hw : IntKind.i64.wrap ((n : Int) * n) = ((n * n : Nat) : Int) := by rw [wrap_id (by omega) (by omega)]; simp
  refine br_yes (by rw [hw, bne_iff_ne]; omega) ?_
  conv => whnf
  refine br_yes (by rw [bne_iff_ne]; omega) ?_
  conv => whnf
  refine br_yes (by rw [bne_iff_ne]; omega) ?_
  conv => whnf
  refine br_yes (by rw [bne_iff_ne]; omega) ?_
  conv => whnf
  refine ⟨?_, [], by simp⟩
  have hc : cellN n f i j < 6144 := Nat.lt_of_lt_of_le hlt (by have := Nat.mul_le_mul hn' hn'; omega)
  have e1 : cellN n f i j / (n * n) = f := by
    rw [cellN, ← Nat.div_div_eq_div_mul, Nat.mul_comm _ n, Nat.mul_add_div (by omega), Nat.div_eq_of_lt hi, Nat.add_zero, Nat.mul_comm f n, Nat.mul_add_div (by omega), Nat.div_eq_of_lt hj, Nat.add_zero]
  have e2 : cellN n f i j % n = i := by
    rw [cellN, Nat.mul_comm _ n, Nat.mul_add_mod, Nat.mod_eq_of_lt hi]
  have e3 : cellN n f i j / n % n = j := by
    rw [cellN, Nat.mul_comm _ n, Nat.mul_add_div (by omega), Nat.div_eq_of_lt hi, Nat.add_zero, Nat.mul_comm f n, Nat.mul_add_mod, Nat.mod_eq_of_lt hj]
  have d1 : IntKind.i64.wrap ((cellN n f i j : Int).tdiv (IntKind.i64.wrap ((n : Int) * n))) = (f : Int) := by
    rw [hw, ← Int.ofNat_tdiv, e1]; exact wrap_id (by omega) (by omega)
  have d2 : (cellN n f i j : Int).tmod (n : Int) = (i : Int) := by rw [← Int.ofNat_tmod, e2]
  have hq : ∀ q : Nat, q ≤ 6144 → IntKind.i64.wrap (q : Int) = q := fun q h => wrap_id (by omega) (by omega)
  have d3 : (IntKind.i64.wrap ((cellN n f i j : Int).tdiv (n : Int))).tmod (n : Int) = (j : Int) := by
    rw [← Int.ofNat_tdiv, hq _ (Nat.le_trans (Nat.div_le_self _ _) (by omega)), ← Int.ofNat_tmod, e3]
  rw [d1, d2, d3]
abbrev V3 (a b c : Int) : V := .agg [I a, I b, I c]
/-- The ints k, k + 1, k + 2 of the table. -/
abbrev W3 (l : List Int) : V := .agg (rowI l)
def frL : Nat → List Int
  | 0 => [1,0,0, 0,1,0, 0,0,1]
  | 1 => [0,1,0, -1,0,0, 0,0,1]
  | 2 => [-1,0,0, 0,-1,0, 0,0,1]
  | 3 => [0,-1,0, 1,0,0, 0,0,1]
  | 4 => [0,0,1, 0,1,0, -1,0,0]
  | _ => [0,0,-1, 0,1,0, 1,0,0]
def midL (f : Nat) : List Int := (frL f).take 3
def outL : Nat → Nat → List Int
  | f, 0 => ((frL f).drop 3).take 3
  | f, 1 => (frL f).drop 6
  | f, 2 => (((frL f).drop 3).take 3).map (- ·)
  | f, _ => ((frL f).drop 6).map (- ·)

theorem times_ok (a b c k : Int) (x : List Blk) : COk Tryz.prog 3 139 [V3 a b c, I k] (GG x) (V3 (IntKind.i64.wrap (k * a)) (IntKind.i64.wrap (k * b)) (IntKind.i64.wrap (k * c))) (GG x) := by
  refine lift ?_ rfl x
  refine COk_quiet Tryz.f139 Tryz.func139 (by kernel_rfl) rfl ?_
  conv => whnf
  exact ⟨rfl, _, rfl⟩
theorem plus_ok (a b c d e f : Int) (x : List Blk) : COk Tryz.prog 3 111 [V3 a b c, V3 d e f] (GG x) (V3 (IntKind.i64.wrap (a + d)) (IntKind.i64.wrap (b + e)) (IntKind.i64.wrap (c + f))) (GG x) := by
  refine lift ?_ rfl x
  refine COk_quiet Tryz.f111 Tryz.func111 (by kernel_rfl) rfl ?_
  conv => whnf
  exact ⟨rfl, _, rfl⟩
def dotI (a b c d e f : Int) : Int := IntKind.i64.wrap (IntKind.i64.wrap (IntKind.i64.wrap (a * d) + IntKind.i64.wrap (b * e)) + IntKind.i64.wrap (c * f))
theorem dot_ok (a b c d e f : Int) (x : List Blk) : COk Tryz.prog 3 100 [V3 a b c, V3 d e f] (GG x) (I (dotI a b c d e f)) (GG x) := by
  refine lift ?_ rfl x
  refine COk_quiet Tryz.f100 Tryz.func100 (by kernel_rfl) rfl ?_
  conv => whnf
  exact ⟨rfl, _, rfl⟩
def crossC (a b c d : Int) : Int := IntKind.i64.wrap (IntKind.i64.wrap (a * b) - IntKind.i64.wrap (c * d))
theorem cross_ok (a b c d e f : Int) (x : List Blk) : COk Tryz.prog 3 138 [V3 a b c, V3 d e f] (GG x) (V3 (crossC b f c e) (crossC c d a f) (crossC a e b d)) (GG x) := by
  refine lift ?_ rfl x
  refine COk_quiet Tryz.f138 Tryz.func138 (by kernel_rfl) rfl ?_
  conv => whnf
  exact ⟨rfl, _, rfl⟩
theorem out_ok (f s : Nat) (hf : f < 6) (hs : s < 4) (x : List Blk) : COk Tryz.prog 3 101 [W3 (frL f), I s] (GG x) (W3 (outL f s)) (GG x) := by
  refine lift ?_ ?_ x
  · obtain rfl | rfl | rfl | rfl | rfl | rfl : f = 0 ∨ f = 1 ∨ f = 2 ∨ f = 3 ∨ f = 4 ∨ f = 5 := by omega
    all_goals obtain rfl | rfl | rfl | rfl : s = 0 ∨ s = 1 ∨ s = 2 ∨ s = 3 := by omega
    all_goals
      refine COk_quiet Tryz.f101 Tryz.func101 (by kernel_rfl) rfl ?_
      conv => whnf
      try (refine ⟨_, _, times_ok _ _ _ _ _, ?_⟩; conv => whnf)
      exact ⟨rfl, _, rfl⟩
  · obtain rfl | rfl | rfl | rfl | rfl | rfl : f = 0 ∨ f = 1 ∨ f = 2 ∨ f = 3 ∨ f = 4 ∨ f = 5 := by omega
    all_goals rfl
theorem faceAt_ok (f : Nat) (hf : f < 6) (x : List Blk) : COk Tryz.prog 3 96 [W3 (midL f)] (GG x) (I f) (GG x) := by
  refine lift ?_ ?_ x
  · obtain rfl | rfl | rfl | rfl | rfl | rfl : f = 0 ∨ f = 1 ∨ f = 2 ∨ f = 3 ∨ f = 4 ∨ f = 5 := by omega
    all_goals
      refine COk_quiet Tryz.f96 Tryz.func96 (by kernel_rfl) rfl ?_
      conv => whnf
      repeat (refine loop_round ?_; conv => whnf)
      exact ⟨rfl, _, rfl⟩
  · obtain rfl | rfl | rfl | rfl | rfl | rfl : f = 0 ∨ f = 1 ∨ f = 2 ∨ f = 3 ∨ f = 4 ∨ f = 5 := by omega
    all_goals rfl
/-- The middle of a cell, in a cube from -n to n. -/
def midP (n i j : Int) : Nat → V
  | 0 => V3 n (2 * i + 1 - n) (2 * j + 1 - n)
  | 1 => V3 (-(2 * i + 1 - n)) n (2 * j + 1 - n)
  | 2 => V3 (-n) (-(2 * i + 1 - n)) (2 * j + 1 - n)
  | 3 => V3 (2 * i + 1 - n) (-n) (2 * j + 1 - n)
  | 4 => V3 (-(2 * j + 1 - n)) (2 * i + 1 - n) n
  | _ => V3 (2 * j + 1 - n) (2 * i + 1 - n) (-n)
theorem V3_congr {a b c d e f : Int} (h : a = d) (h' : b = e) (h'' : c = f) : V3 a b c = V3 d e f := by subst h h' h''; rfl
theorem middle_ok (f : Nat) (n i j : Int) (hf : f < 6) (hn : 0 ≤ n ∧ n ≤ 32) (hi : 0 ≤ i ∧ i ≤ 32) (hj : 0 ≤ j ∧ j ≤ 32) (x : List Blk) :
    COk Tryz.prog 3 97 [I n, I f, I i, I j] (GG x) (midP n i j f) (GG x) := by
  refine lift ?_ rfl x
  obtain rfl | rfl | rfl | rfl | rfl | rfl : f = 0 ∨ f = 1 ∨ f = 2 ∨ f = 3 ∨ f = 4 ∨ f = 5 := by omega
  all_goals
    refine COk_quiet Tryz.f97 Tryz.func97 (by kernel_rfl) rfl ?_
    conv => whnf
    refine ⟨_, times_ok _ _ _ _ _, ?_⟩
    conv => whnf
    refine ⟨_, times_ok _ _ _ _ _, ?_⟩
    conv => whnf
    refine ⟨_, plus_ok _ _ _ _ _ _ _, ?_⟩
    conv => whnf
    refine ⟨_, times_ok _ _ _ _ _, ?_⟩
    conv => whnf
    refine ⟨_, plus_ok _ _ _ _ _ _ _, ?_⟩
    conv => whnf
    refine ⟨V3_congr ?_ ?_ ?_, _, rfl⟩
    all_goals
      simp (disch := omega) only [wrap_id]
      omega
def idxI (n a : Int) : Int := if n - 1 < (if 0 ≤ a + n - 1 then (a + n - 1) / 2 else 0) then n - 1 else if 0 ≤ a + n - 1 then (a + n - 1) / 2 else 0
theorem idx_lt (n a : Int) (hn : 1 ≤ n) : 0 ≤ idxI n a ∧ idxI n a < n := by
  unfold idxI
  split <;> split <;> omega
theorem index_ok (n a : Int) (hn : 1 ≤ n ∧ n ≤ 32) (ha : -200 ≤ a ∧ a ≤ 200) (m : List Blk) : COk Tryz.prog 3 99 [I n, I a] m (I (idxI n a)) m := by
  refine COk_quiet Tryz.f99 Tryz.func99 (by kernel_rfl) rfl ?_
  conv => whnf
  have e1 : IntKind.i64.wrap (IntKind.i64.wrap (a + n) - 1) = a + n - 1 := by simp (disch := omega) only [wrap_id]
  have e2 : IntKind.i64.wrap (n - 1) = n - 1 := wrap_id (by omega) (by omega)
  rw [e1, e2]
  refine ⟨?_, [], by simp⟩
  congr 1
  unfold idxI
  by_cases h : 0 ≤ a + n - 1
  · have e3 : IntKind.i64.wrap ((a + n - 1).tdiv 2) = (a + n - 1) / 2 := by
      rw [Int.tdiv_eq_ediv_of_nonneg h]
      exact wrap_id (by omega) (by omega)
    rw [e3, if_neg (show ¬ (0 > (a + n - 1) / 2) by omega), if_pos h]
  · have e3 : IntKind.i64.wrap ((a + n - 1).tdiv 2) = -((1 - a - n) / 2) := by
      rw [show a + n - 1 = -(1 - a - n) by omega, Int.neg_tdiv, Int.tdiv_eq_ediv_of_nonneg (by omega)]
      exact wrap_id (by omega) (by omega)
    rw [e3, if_neg h]
    split <;> split <;> omega
theorem dot_lin (a b c d e f : Int) (ha : -200 ≤ a ∧ a ≤ 200) (hb : -200 ≤ b ∧ b ≤ 200) (hc : -200 ≤ c ∧ c ≤ 200) (hd : d = 0 ∨ d = 1 ∨ d = -1) (he : e = 0 ∨ e = 1 ∨ e = -1) (hf : f = 0 ∨ f = 1 ∨ f = -1) :
    dotI a b c d e f = a * d + b * e + c * f := by
  unfold dotI
  obtain rfl | rfl | rfl := hd <;> obtain rfl | rfl | rfl := he <;> obtain rfl | rfl | rfl := hf <;> simp (disch := omega) only [wrap_id]
/-- A frame as nine ints. -/
abbrev V9 (a b c d e f g h i : Int) : V := .agg [I a, I b, I c, I d, I e, I f, I g, I h, I i]
theorem out0_ok (a b c d e f g h i : Int) (x : List Blk) : COk Tryz.prog 3 101 [V9 a b c d e f g h i, I 0] (GG x) (V3 d e f) (GG x) := by
  refine lift ?_ rfl x
  refine COk_quiet Tryz.f101 Tryz.func101 (by kernel_rfl) rfl ?_
  conv => whnf
  exact ⟨rfl, _, rfl⟩
theorem out1_ok (a b c d e f g h i : Int) (x : List Blk) : COk Tryz.prog 3 101 [V9 a b c d e f g h i, I 1] (GG x) (V3 g h i) (GG x) := by
  refine lift ?_ rfl x
  refine COk_quiet Tryz.f101 Tryz.func101 (by kernel_rfl) rfl ?_
  conv => whnf
  exact ⟨rfl, _, rfl⟩
theorem out2_ok (a b c d e f g h i : Int) (x : List Blk) : COk Tryz.prog 3 101 [V9 a b c d e f g h i, I 2] (GG x) (V3 (IntKind.i64.wrap (-1 * d)) (IntKind.i64.wrap (-1 * e)) (IntKind.i64.wrap (-1 * f))) (GG x) := by
  refine lift ?_ rfl x
  refine COk_quiet Tryz.f101 Tryz.func101 (by kernel_rfl) rfl ?_
  conv => whnf
  refine ⟨_, _, times_ok _ _ _ _ _, ?_⟩
  conv => whnf
  exact ⟨rfl, _, rfl⟩
theorem out3_ok (a b c d e f g h i : Int) (x : List Blk) : COk Tryz.prog 3 101 [V9 a b c d e f g h i, I 3] (GG x) (V3 (IntKind.i64.wrap (-1 * g)) (IntKind.i64.wrap (-1 * h)) (IntKind.i64.wrap (-1 * i))) (GG x) := by
  refine lift ?_ rfl x
  refine COk_quiet Tryz.f101 Tryz.func101 (by kernel_rfl) rfl ?_
  conv => whnf
  refine ⟨_, _, times_ok _ _ _ _ _, ?_⟩
  conv => whnf
  exact ⟨rfl, _, rfl⟩
/-- The face with this middle. -/
def face3 (a b c : Int) : Option Nat :=
  if a = 1 ∧ b = 0 ∧ c = 0 then some 0 else if a = 0 ∧ b = 1 ∧ c = 0 then some 1 else if a = -1 ∧ b = 0 ∧ c = 0 then some 2 else if a = 0 ∧ b = -1 ∧ c = 0 then some 3 else if a = 0 ∧ b = 0 ∧ c = 1 then some 4 else if a = 0 ∧ b = 0 ∧ c = -1 then some 5 else none
theorem face3_ok (a b c : Int) (f : Nat) (h : face3 a b c = some f) (x : List Blk) : COk Tryz.prog 3 96 [V3 a b c] (GG x) (I f) (GG x) := by
  unfold face3 at h
  split at h
  · rename_i h'; obtain ⟨rfl, rfl, rfl⟩ := h'; cases h; exact faceAt_ok 0 (by decide) x
  split at h
  · rename_i h'; obtain ⟨rfl, rfl, rfl⟩ := h'; cases h; exact faceAt_ok 1 (by decide) x
  split at h
  · rename_i h'; obtain ⟨rfl, rfl, rfl⟩ := h'; cases h; exact faceAt_ok 2 (by decide) x
  split at h
  · rename_i h'; obtain ⟨rfl, rfl, rfl⟩ := h'; cases h; exact faceAt_ok 3 (by decide) x
  split at h
  · rename_i h'; obtain ⟨rfl, rfl, rfl⟩ := h'; cases h; exact faceAt_ok 4 (by decide) x
  split at h
  · rename_i h'; obtain ⟨rfl, rfl, rfl⟩ := h'; cases h; exact faceAt_ok 5 (by decide) x
  · exact nomatch h
end Go.Proofs.YtgoljofmbidkfaaGreatDoor
/- Package cube: Beside. No condition. -/
namespace Go.Proofs.YtgoljofmbidkfaaGreatDoor
open Go Go.Eng
set_option maxRecDepth 100000
set_option linter.unusedSimpArgs false
set_option linter.unusedVariables false

/-- Over the edge of face f at its side s: the face there, its side, and whether the cells run the other way. -/
def nbT : Nat → Nat → Nat × Nat × Bool
  | 0, 0 => (1, 2, false) | 0, 1 => (4, 3, false) | 0, 2 => (3, 0, false) | 0, _ => (5, 1, false)
  | 1, 0 => (2, 2, false) | 1, 1 => (4, 0, false) | 1, 2 => (0, 0, false) | 1, _ => (5, 0, true)
  | 2, 0 => (3, 2, false) | 2, 1 => (4, 1, true) | 2, 2 => (1, 0, false) | 2, _ => (5, 3, true)
  | 3, 0 => (0, 2, false) | 3, 1 => (4, 2, true) | 3, 2 => (2, 0, false) | 3, _ => (5, 2, false)
  | 4, 0 => (1, 1, false) | 4, 1 => (2, 1, true) | 4, 2 => (3, 1, true) | 4, _ => (0, 1, false)
  | _, 0 => (1, 3, true) | _, 1 => (0, 3, false) | _, 2 => (3, 3, false) | _, _ => (2, 3, true)
def alongS (i j : Nat) : Nat → Nat
  | 0 => j | 1 => i | 2 => j | _ => i
def putS (n k : Nat) : Nat → Nat × Nat
  | 0 => (n - 1, k) | 1 => (k, n - 1) | 2 => (0, k) | _ => (k, 0)
def flipK (n k : Nat) : Bool → Nat
  | true => n - 1 - k | false => k
/-- Over the face's edge. -/
def nbE (n f i j s : Nat) : Nat × Nat × Nat × Nat :=
  ((nbT f s).1, (putS n (flipK n (alongS i j s) (nbT f s).2.2) (nbT f s).2.1).1, (putS n (flipK n (alongS i j s) (nbT f s).2.2) (nbT f s).2.1).2, (nbT f s).2.1)
/-- The cell beside: face, i, j, the side that lies there. -/
def nb (n f i j : Nat) : Nat → Nat × Nat × Nat × Nat
  | 0 => if i + 1 < n then (f, i + 1, j, 2) else nbE n f i j 0
  | 1 => if j + 1 < n then (f, i, j + 1, 3) else nbE n f i j 1
  | 2 => if 0 < i then (f, i - 1, j, 0) else nbE n f i j 2
  | _ => if 0 < j then (f, i, j - 1, 1) else nbE n f i j 3
abbrev cellQ (n : Nat) (q : Nat × Nat × Nat × Nat) : Nat := cellN n q.1 q.2.1 q.2.2.1

theorem tup2_congr {a b c d : Int} (h : a = c) (h' : b = d) : V.tup [I a, I b] = V.tup [I c, I d] := by subst h h'; rfl
theorem cellN_congr {n f i j i' j' : Nat} (h : i = i') (h' : j = j') : ((cellN n f i j : Nat) : Int) = (cellN n f i' j' : Nat) := by subst h h'; rfl
theorem beside_mid (n f i j : Nat) (s f' i' j' b : Nat) (hn : 1 ≤ n) (hn' : n ≤ 32) (hf : f < 6) (hi : i < n) (hj : j < n) (hs : s < 4)
    (h : (s = 0 ∧ i + 1 < n ∧ i' = i + 1 ∧ j' = j ∧ b = 2) ∨ (s = 1 ∧ j + 1 < n ∧ i' = i ∧ j' = j + 1 ∧ b = 3) ∨ (s = 2 ∧ 0 < i ∧ i = i' + 1 ∧ j' = j ∧ b = 0) ∨ (s = 3 ∧ 0 < j ∧ i' = i ∧ j = j' + 1 ∧ b = 1)) (x : List Blk) :
    COk Tryz.prog 3 53 [I n, I (cellN n f i j), I s] (GG x) (.tup [I (cellN n f i' j'), I b]) (GG x) := by
  refine lift ?_ rfl x
  refine COk_quiet Tryz.f53 Tryz.func53 (by kernel_rfl) rfl ?_
  conv => whnf
  refine ⟨_, _, place_in n f i j hn hn' hf hi hj _, ?_⟩
  rcases h with ⟨rfl, h, e1, e2, rfl⟩ | ⟨rfl, h, e1, e2, rfl⟩ | ⟨rfl, h, e1, e2, rfl⟩ | ⟨rfl, h, e1, e2, rfl⟩
  all_goals
    conv => whnf
    refine ⟨_, cell_at n f i' j' (by simp (disch := omega) only [wrap_id]; omega) (by simp (disch := omega) only [wrap_id]; omega) hn hn' hf (by omega) (by omega) _, ?_⟩
    conv => whnf
    exact ⟨rfl, _, rfl⟩
set_option maxHeartbeats 0 in
theorem beside_edge (n f i j s : Nat) (hn : 1 ≤ n) (hn' : n ≤ 32) (hf : f < 6) (hi : i < n) (hj : j < n) (hs : s < 4)
    (h : (s = 0 ∧ i + 1 = n) ∨ (s = 1 ∧ j + 1 = n) ∨ (s = 2 ∧ i = 0) ∨ (s = 3 ∧ j = 0)) (x : List Blk) :
    COk Tryz.prog 3 53 [I n, I (cellN n f i j), I s] (GG x) (.tup [I (cellQ n (nbE n f i j s)), I (nbE n f i j s).2.2.2]) (GG x) := by
  refine lift ?_ rfl x
  refine COk_quiet Tryz.f53 Tryz.func53 (by kernel_rfl) rfl ?_
  conv => whnf
  refine ⟨_, _, place_in n f i j hn hn' hf hi hj _, ?_⟩
  obtain rfl | rfl | rfl | rfl | rfl | rfl : f = 0 ∨ f = 1 ∨ f = 2 ∨ f = 3 ∨ f = 4 ∨ f = 5 := by omega
  all_goals
    rcases h with ⟨rfl, h⟩ | ⟨rfl, h⟩ | ⟨rfl, h⟩ | ⟨rfl, h⟩
    all_goals
      conv => whnf
      refine ⟨_, cell_no _ _ _ _ (by simp (disch := omega) only [wrap_id]; omega) _, ?_⟩
      conv => whnf
      first | refine ⟨_, _, out0_ok _ _ _ _ _ _ _ _ _ _, ?_⟩ | refine ⟨_, _, out1_ok _ _ _ _ _ _ _ _ _ _, ?_⟩ | refine ⟨_, _, out2_ok _ _ _ _ _ _ _ _ _ _, ?_⟩ | refine ⟨_, _, out3_ok _ _ _ _ _ _ _ _ _ _, ?_⟩
      conv => whnf
      refine ⟨_, _, face3_ok _ _ _ _ (by rfl) _, ?_⟩
      conv => whnf
      refine ⟨_, middle_ok _ _ _ _ (by omega) (by omega) (by omega) (by omega) _, ?_⟩
      conv => whnf
      first | refine ⟨_, out0_ok _ _ _ _ _ _ _ _ _ _, ?_⟩ | refine ⟨_, out1_ok _ _ _ _ _ _ _ _ _ _, ?_⟩ | refine ⟨_, out2_ok _ _ _ _ _ _ _ _ _ _, ?_⟩ | refine ⟨_, out3_ok _ _ _ _ _ _ _ _ _ _, ?_⟩
      conv => whnf
      refine ⟨_, plus_ok _ _ _ _ _ _ _, ?_⟩
      conv => whnf
      refine ⟨_, dot_ok _ _ _ _ _ _ _, ?_⟩
      conv => whnf
      refine ⟨_, index_ok _ _ (by omega) (by simp (disch := omega) only [wrap_id, dot_lin]; omega) _, ?_⟩
      conv => whnf
      refine ⟨_, dot_ok _ _ _ _ _ _ _, ?_⟩
      conv => whnf
      refine ⟨_, index_ok _ _ (by omega) (by simp (disch := omega) only [wrap_id, dot_lin]; omega) _, ?_⟩
      conv => whnf
      refine ⟨_, cell_to _ _ (idx_lt _ _ (by omega)) (idx_lt _ _ (by omega)) hn' (by omega) _, ?_⟩
      conv => whnf
      repeat
        refine loop_round ?_
        conv => whnf
        first | refine ⟨_, out0_ok _ _ _ _ _ _ _ _ _ _, ?_⟩ | refine ⟨_, out1_ok _ _ _ _ _ _ _ _ _ _, ?_⟩ | refine ⟨_, out2_ok _ _ _ _ _ _ _ _ _ _, ?_⟩ | refine ⟨_, out3_ok _ _ _ _ _ _ _ _ _ _, ?_⟩
        conv => whnf
      refine ⟨tup2_congr (cellN_congr ?_ ?_) (by rfl), _, rfl⟩
      all_goals
        simp (disch := omega) only [wrap_id, dot_lin]
        simp only [nbE, nbT, putS, flipK, alongS, idxI]
        split <;> split <;> omega
theorem beside_ok (n f i j s : Nat) (hn : 1 ≤ n) (hn' : n ≤ 32) (hf : f < 6) (hi : i < n) (hj : j < n) (hs : s < 4) (x : List Blk) :
    COk Tryz.prog 3 53 [I n, I (cellN n f i j), I s] (GG x) (.tup [I (cellQ n (nb n f i j s)), I (nb n f i j s).2.2.2]) (GG x) := by
  obtain rfl | rfl | rfl | rfl : s = 0 ∨ s = 1 ∨ s = 2 ∨ s = 3 := by omega
  · by_cases h : i + 1 < n
    · rw [show nb n f i j 0 = (f, i + 1, j, 2) from if_pos h]
      exact beside_mid n f i j _ f _ _ _ hn hn' hf hi hj (by omega) (.inl ⟨rfl, h, rfl, rfl, rfl⟩) x
    · rw [show nb n f i j 0 = nbE n f i j 0 from if_neg h]
      exact beside_edge n f i j _ hn hn' hf hi hj (by omega) (by omega) x
  · by_cases h : j + 1 < n
    · rw [show nb n f i j 1 = (f, i, j + 1, 3) from if_pos h]
      exact beside_mid n f i j _ f _ _ _ hn hn' hf hi hj (by omega) (.inr (.inl ⟨rfl, h, rfl, rfl, rfl⟩)) x
    · rw [show nb n f i j 1 = nbE n f i j 1 from if_neg h]
      exact beside_edge n f i j _ hn hn' hf hi hj (by omega) (by omega) x
  · by_cases h : 0 < i
    · rw [show nb n f i j 2 = (f, i - 1, j, 0) from if_pos h]
      exact beside_mid n f i j _ f _ _ _ hn hn' hf hi hj (by omega) (.inr (.inr (.inl ⟨rfl, h, (by omega : i = i - 1 + 1), rfl, rfl⟩))) x
    · rw [show nb n f i j 2 = nbE n f i j 2 from if_neg h]
      exact beside_edge n f i j _ hn hn' hf hi hj (by omega) (by omega) x
  · by_cases h : 0 < j
    · rw [show nb n f i j 3 = (f, i, j - 1, 1) from if_pos h]
      exact beside_mid n f i j _ f _ _ _ hn hn' hf hi hj (by omega) (.inr (.inr (.inr ⟨rfl, h, rfl, (by omega : j = j - 1 + 1), rfl⟩))) x
    · rw [show nb n f i j 3 = nbE n f i j 3 from if_neg h]
      exact beside_edge n f i j _ hn hn' hf hi hj (by omega) (by omega) x
end Go.Proofs.YtgoljofmbidkfaaGreatDoor
