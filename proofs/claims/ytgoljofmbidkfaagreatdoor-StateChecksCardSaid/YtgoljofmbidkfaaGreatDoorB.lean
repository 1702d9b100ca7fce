/- The base of this seat's contracts: the two tables of the program as abstract blocks; words for what the walks leave. No condition. -/
import Derived.Test.YtgoljofmbidkfaaGreatDoorProg
import Derived.Test.YtgoljofmbidkfaaGreatDoorE21
namespace Go.Proofs.YtgoljofmbidkfaaGreatDoor
open Go Go.Eng
set_option maxRecDepth 100000
set_option linter.unusedSimpArgs false
set_option linter.unusedVariables false

/-- A row of ints. -/
def rowI (l : List Int) : List V := l.map (V.int .i64)
def cubeL : List Int := [1,0,0, 0,1,0, 0,0,1,  0,1,0, -1,0,0, 0,0,1,  -1,0,0, 0,-1,0, 0,0,1,  0,-1,0, 1,0,0, 0,0,1,  0,0,1, 0,1,0, -1,0,0,  0,0,-1, 0,1,0, 1,0,0]
/-- The table 'frames' of cube and of geom: the same numbers. -/
def Gcube : Blk := ⟨false, .cells (rowI cubeL)⟩
def Gdead : Blk := ⟨false, .dead⟩
abbrev GG (x : List Blk) : List Blk := Gcube :: Gdead :: Gcube :: x

theorem lift {f : FuncId} {args : List V} {r : V} (h : COk Tryz.prog 3 f args (GG []) r (GG [])) (ha : scL 3 args = true) (x : List Blk) : COk Tryz.prog 3 f args (GG x) r (GG x) :=
  COk.more h (by kernel_rfl) (by kernel_rfl) (by kernel_rfl) ha x

theorem wrap_id {n : Int} (h1 : -9223372036854775808 ≤ n) (h2 : n < 9223372036854775808) : IntKind.i64.wrap n = n := by
  have key : ∀ m : Int, n % (2 ^ 64 : Int) = m → IntKind.i64.wrap n = if (true && decide (m ≥ (2 ^ 63 : Int))) = true then m - 2 ^ 64 else m := fun m h => by rw [← h]; rfl
  rcases (by omega : n < 0 ∨ 0 ≤ n) with h | h
  · have e : n % (2 ^ 64 : Int) = n + 2 ^ 64 := by omega
    rw [key _ e, if_pos (by simp; omega)]
    omega
  · rw [key _ (Int.emod_eq_of_lt h (by omega)), if_neg (by simp; omega)]
abbrev I (n : Int) : V := .int .i64 n
abbrev Bo (b : Bool) : V := .bool b
theorem of_dec {p : Prop} [Decidable p] (h : decide p = true) : p := of_decide_eq_true h
theorem of_ndec {p : Prop} [Decidable p] (h : decide p = false) : ¬ p := of_decide_eq_false h
theorem br_d {p : Prop} [Decidable p] {A B : Prop} (h : p) (k : A) : br (decide p) A B := br_yes (decide_eq_true h) k
theorem br_nd {p : Prop} [Decidable p] {A B : Prop} (h : ¬ p) (k : B) : br (decide p) A B := br_no (decide_eq_false h) k
theorem br_di {p : Prop} [Decidable p] {A B : Prop} (h : p → A) (k : ¬ p → B) : br (decide p) A B := br_intro (fun e => h (of_decide_eq_true e)) (fun e => k (of_decide_eq_false e))
theorem br_not {c : Bool} {A B : Prop} (h : br c B A) : br (!c) A B := by cases c <;> exact h
theorem br_eq {a b : Int} {A B : Prop} (h : a = b) (k : A) : br (a == b) A B := br_yes (by simpa using h) k
theorem br_neq {a b : Int} {A B : Prop} (h : a ≠ b) (k : B) : br (a == b) A B := br_no (by simpa using h) k
theorem br_ne {a b : Int} {A B : Prop} (h : a ≠ b) (k : A) : br (a != b) A B := br_yes (by simpa using h) k
/-- One round of a loop of this program. -/
theorem lr {n : Nat} {c : Code} {t : List V} {m : List Blk} {K : Exit → List V → List Blk → Prop}
    (h : ev Tryz.prog 3 c t m fun e t' m' => match e with | .normal => loopVC n c (ev Tryz.prog 3 c) t' m' K | e => K e t' m') : loopVC n c (ev Tryz.prog 3 c) t m K := loop_round h
end Go.Proofs.YtgoljofmbidkfaaGreatDoor
