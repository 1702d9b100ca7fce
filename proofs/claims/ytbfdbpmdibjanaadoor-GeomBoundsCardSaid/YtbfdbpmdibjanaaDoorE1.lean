/- The engine, part 1: abstract values and memory, and the evaluator 'ev', which turns a function's code into a proposition over abstract states. No condition: definitions alone. -/
import Derived.WalkKit
import Derived.WalkLawsBesides
import Derived.KernelRfl
namespace Go.Eng
open Go

/-- Where an abstract block lies: its block in the heap, its first cell, how many cells are sure to be there, and its version (0: it never moves). -/
structure Pl where
  b : Nat
  off : Nat
  room : Nat
  ver : Nat

/-- An abstract value: pointers go to abstract blocks by number. 'gp', 'gs': into a row that grows, at a version of it; 'mp': a map; 'sk': a slice of known capacity. -/
inductive V where
  | bool (b : Bool)
  | int (k : IntKind) (n : Int)
  | fl (o : Option Nat)
  | raw (v : Value)
  | ptr (i off : Nat)
  | sl (i off len : Nat)
  | agg (cs : List V)
  | tup (vs : List V)
  | clo (fn : Fn) (fst cap : List V)
  | gp (i v off : Nat)
  | gs (i v es len : Nat)
  | mp (i : Nat)
  | sk (i off len cap : Nat)
  | any

abbrev V.un : V := .raw undef

/-- What an abstract block holds. -/
inductive B where
  | dead
  | cells (cs : List V)
  | ints (k : IntKind) (l : List Int)
  | flts (l : List Nat)
  | bools (l : List Bool)
  | gints (v : Nat) (k : IntKind) (l : List Int)
  | gflts (v : Nat) (l : List Nat)
  | gcells (v : Nat) (cs : List V)
  | mpI (f : Int → Int → Option Int)

/-- An abstract block: may it be written? -/
structure Blk where
  w : Bool
  b : B

def ofVal1 : Value → V
  | .bool b => .bool b
  | .int k n => .int k n
  | .float .f64 b => .fl (some b)
  | v => .raw v
def ofVals : List Value → List V
  | [] => []
  | v :: vs => ofVal1 v :: ofVals vs
def ofVal : Value → V
  | .agg cs => .agg (ofVals cs.toList)
  | v => ofVal1 v

def getT : List V → Nat → V
  | [], _ => .un
  | v :: _, 0 => v
  | _ :: vs, n + 1 => getT vs n

/-- A value whose head is laid open, then on. -/
def fV : V → (V → Prop) → Prop
  | .bool b, K => K (.bool b)
  | .int k n, K => K (.int k n)
  | .fl o, K => K (.fl o)
  | .raw v, K => K (.raw v)
  | .ptr i o, K => K (.ptr i o)
  | .sl i o n, K => K (.sl i o n)
  | .agg cs, K => K (.agg cs)
  | .tup vs, K => K (.tup vs)
  | .clo a b c, K => K (.clo a b c)
  | .gp i v o, K => K (.gp i v o)
  | .gs i v e n, K => K (.gs i v e n)
  | .mp i, K => K (.mp i)
  | .sk i o n c, K => K (.sk i o n c)
  | .any, K => K .any

/-- All values of a list laid open, then on. -/
noncomputable def fVs (l : List V) : (List V → Prop) → Prop :=
  List.rec (motive := fun _ => (List V → Prop) → Prop) (fun K => K []) (fun v _ ih K => fV v fun v => ih fun vs => K (v :: vs)) l

noncomputable def setT (l : List V) : Nat → V → (List V → Prop) → Prop :=
  List.rec (motive := fun _ => Nat → V → (List V → Prop) → Prop) (fun _ _ K => K [])
    (fun a vs ih n v K => match n with
      | 0 => K (v :: vs)
      | n + 1 => ih n v fun l => K (a :: l)) l

def getB : List Blk → Nat → Blk
  | [], _ => ⟨false, .dead⟩
  | b :: _, 0 => b
  | _ :: bs, n + 1 => getB bs n

noncomputable def setB (l : List Blk) : Nat → Blk → (List Blk → Prop) → Prop :=
  List.rec (motive := fun _ => Nat → Blk → (List Blk → Prop) → Prop) (fun _ _ K => K [])
    (fun a bs ih n b K => match n with
      | 0 => K (b :: bs)
      | n + 1 => ih n b fun l => K (a :: l)) l

/-- The list with one block more, and that block's number. -/
noncomputable def addB (l : List Blk) : Blk → (Nat → List Blk → Prop) → Prop :=
  List.rec (motive := fun _ => Blk → (Nat → List Blk → Prop) → Prop) (fun b K => K 0 [b]) (fun a _ ih b K => ih b fun n l => K (n + 1) (a :: l)) l

/-- Decides what is decided by sight. -/
def br : Bool → Prop → Prop → Prop
  | true, A, _ => A
  | false, _, B => B

theorem br_intro {c : Bool} {A B : Prop} (h : c = true → A) (h' : c = false → B) : br c A B := by
  cases c
  · exact h' rfl
  · exact h rfl
theorem br_yes {c : Bool} {A B : Prop} (h : c = true) (h' : A) : br c A B := by subst h; exact h'
theorem br_no {c : Bool} {A B : Prop} (h : c = false) (h' : B) : br c A B := by subst h; exact h'

/-! ### Floats -/
abbrev f64 : Ieee.Format := Ieee.double
/-- The bits of a NaN. -/
def nanB (b : Nat) : Prop := b < 2 ^ 64 ∧ f64.infRung < b % f64.signWeight
def fden : Option Nat → Nat → Prop
  | some c, b => b = c
  | none, b => nanB b
def fop2 (f : Nat → Nat → Option Nat) : Option Nat → Option Nat → Option Nat
  | some a, some b => f a b
  | _, _ => none
def fadd := fop2 f64.add
def fsub := fop2 f64.sub
def fmul := fop2 f64.mul
def fdiv := fop2 f64.div
def fcmp : Option Nat → Option Nat → Option Ordering
  | some a, some b => f64.order a b
  | _, _ => none
def feq (a b : Option Nat) : Bool := fcmp a b == some .eq
def fne (a b : Option Nat) : Bool := fcmp a b != some .eq
def flt (a b : Option Nat) : Bool := fcmp a b == some .lt
def fle (a b : Option Nat) : Bool := fcmp a b == some .lt || fcmp a b == some .eq
def fgt (a b : Option Nat) : Bool := fcmp a b == some .gt
def fge (a b : Option Nat) : Bool := fcmp a b == some .gt || fcmp a b == some .eq
def fneg : Option Nat → Option Nat
  | some a => some (Op.negFloat .f64 a)
  | none => none
def fsqrt : Option Nat → Option Nat
  | some a => f64.sqrt a
  | none => none

/-! ### Operands -/
def evO (ng : Nat) (t : List V) : Operand → V
  | .tmp n => getT t n
  | .const v => ofVal v
  | .global g => match Nat.blt g ng with
    | true => .ptr g 0
    | false => .raw (.pointer (some ⟨g, 0, none⟩))
  | .func f => .clo (.func f) [] []
noncomputable def evArgs (ng : Nat) (t : List V) (l : List Operand) : (List V → Prop) → Prop :=
  List.rec (motive := fun _ => (List V → Prop) → Prop) (fun K => K []) (fun o _ ih K => fV (evO ng t o) fun v => ih fun vs => K (v :: vs)) l

/-! ### Memory -/
def ltL : Nat → List V → Bool
  | _, [] => false
  | 0, _ :: _ => true
  | n + 1, _ :: l => ltL n l
/-- One cell. -/
noncomputable def rd1 : B → Nat → (V → Prop) → Prop
  | .cells cs, off, K => br (ltL off cs) (fV (getT cs off) K) False
  | .ints k l, off, K => br (Nat.blt off l.length) (K (.int k (l.getD off 0))) False
  | .flts l, off, K => br (Nat.blt off l.length) (K (.fl (some (l.getD off 0)))) False
  | .bools l, off, K => br (Nat.blt off l.length) (K (.bool (l.getD off false))) False
  | .gcells _ cs, off, K => br (ltL off cs) (fV (getT cs off) K) False
  | .gints _ k l, off, K => br (Nat.blt off l.length) (K (.int k (l.getD off 0))) False
  | .gflts _ l, off, K => br (Nat.blt off l.length) (K (.fl (some (l.getD off 0)))) False
  | .dead, _, _ => False
  | .mpI _, _, _ => False
noncomputable def rdN (b : B) (off n : Nat) : (List V → Prop) → Prop :=
  Nat.rec (motive := fun _ => Nat → (List V → Prop) → Prop) (fun _ K => K []) (fun _ ih off K => rd1 b off fun v => ih (off + 1) fun vs => K (v :: vs)) n off
/-- Is it the value of one cell? -/
def V.one : V → Bool
  | .bool _ | .int _ _ | .fl _ | .ptr _ _ | .sl _ _ _ | .clo _ _ _ | .gp _ _ _ | .gs _ _ _ _ | .mp _ | .sk _ _ _ _ => true
  | .raw (.agg _) => false
  | .raw (.tuple _) => false
  | .raw _ => true
  | _ => false
def sameKind : IntKind → IntKind → Bool
  | .i8, .i8 | .i16, .i16 | .i32, .i32 | .i64, .i64 | .u8, .u8 | .u16, .u16 | .u32, .u32 | .u64, .u64 => true
  | _, _ => false
noncomputable def wr1 : B → Nat → V → (B → Prop) → Prop
  | .cells cs, off, v, K => br (ltL off cs && v.one) (setT cs off v fun cs => K (.cells cs)) False
  | .ints k l, off, .int k' n, K => br (sameKind k k' && Nat.blt off l.length) (K (.ints k (l.set off n))) False
  | .flts l, off, .fl (some b), K => br (Nat.blt off l.length) (K (.flts (l.set off b))) False
  | .bools l, off, .bool b, K => br (Nat.blt off l.length) (K (.bools (l.set off b))) False
  | .gcells w cs, off, v, K => br (ltL off cs && v.one) (setT cs off v fun cs => K (.gcells w cs)) False
  | .gints w k l, off, .int k' n, K => br (sameKind k k' && Nat.blt off l.length) (K (.gints w k (l.set off n))) False
  | .gflts w l, off, .fl (some b), K => br (Nat.blt off l.length) (K (.gflts w (l.set off b))) False
  | _, _, _, _ => False
noncomputable def wrN (b : B) (off : Nat) (l : List V) : (B → Prop) → Prop :=
  List.rec (motive := fun _ => B → Nat → (B → Prop) → Prop) (fun b _ K => K b) (fun v _ ih b off K => wr1 b off v fun b => ih b (off + 1) K) l b off
def V.cellsL : V → List V
  | .agg cs => cs
  | v => [v]
def lenL : List V → Nat
  | [] => 0
  | _ :: l => lenL l + 1
def allOne : List V → Bool
  | [] => true
  | v :: l => v.one && allOne l
def isAggD : Option TypeDesc → Bool
  | some (.struct _) | some (.array _ _) => true
  | _ => false

/-! ### Parts of aggregates -/
def takeL : Nat → List V → List V
  | 0, _ => []
  | _, [] => []
  | n + 1, v :: l => v :: takeL n l
def dropL : Nat → List V → List V
  | 0, l => l
  | _, [] => []
  | n + 1, _ :: l => dropL n l
noncomputable def partV (P : Program) (t : TypeId) (cs : List V) (off : Nat) (K : V → Prop) : Prop :=
  match isAggD (P.underlying t) with
  | true => br (Nat.ble (off + P.cellsOf t) (lenL cs)) (fVs (takeL (P.cellsOf t) (dropL off cs)) fun l => K (.agg l)) False
  | false => match P.underlying t with
    | some _ => br (ltL off cs) (fV (getT cs off) K) False
    | none => False
/-- 'z' with 'vs' from place 'off' on. -/
def pasteL : List V → Nat → List V → List V
  | z, _, [] => z
  | z, off, v :: vs => pasteL (z.set off v) (off + 1) vs
def zeroL (P : Program) (t : TypeId) : Option (List V) :=
  match P.info? t with
  | some i => match i.zero with
    | some z => some (ofVals z.cells.toList)
    | none => none
  | none => none
def fieldOf : Option TypeDesc → Nat → Option Field
  | some (.struct fs), i => fs.toList[i]?
  | _, _ => none
noncomputable def fillV (place : Nat → Option (Nat × Nat)) (z : List V) (l : List (Nat × V)) : (List V → Prop) → Prop :=
  List.rec (motive := fun _ => List V → (List V → Prop) → Prop) (fun z K => K z)
    (fun p _ ih z K => match place p.1 with
      | some (off, sz) => br (Nat.beq (lenL p.2.cellsL) sz && Nat.ble (off + lenL p.2.cellsL) (lenL z) && allOne p.2.cellsL) (fVs (pasteL z off p.2.cellsL) fun z => ih z K) False
      | none => False) l z
noncomputable def evParts (ng : Nat) (t : List V) (l : List (Nat × Operand)) : (List (Nat × V) → Prop) → Prop :=
  List.rec (motive := fun _ => (List (Nat × V) → Prop) → Prop) (fun K => K []) (fun p _ ih K => fV (evO ng t p.2) fun v => ih fun l => K ((p.1, v) :: l)) l

/-! ### What an abstract state says of a world -/
mutual
/-- The value 'x' is what 'v' says, at the blocks 'i < n' laid by 'g'. -/
def Rv (n : Nat) (g : Nat → Pl) : V → Value → Prop
  | .bool b, x => x = .bool b
  | .int k a, x => x = .int k a
  | .fl o, x => ∃ b, fden o b ∧ x = .float .f64 b
  | .raw v, x => x = v
  | .ptr i off, x => i < n ∧ (g i).4 = 0 ∧ x = .pointer (some ⟨(g i).1, (g i).2 + off, none⟩)
  | .sl i off len, x => i < n ∧ (g i).4 = 0 ∧ ∃ a cap, x = .slice a len cap ∧ len ≤ cap ∧ (0 < len → a = some ⟨(g i).1, (g i).2 + off, none⟩)
  | .agg cs, x => ∃ xs, x = .agg xs ∧ Rvs n g cs xs.toList
  | .tup cs, x => ∃ xs, x = .tuple xs ∧ Rvs n g cs xs.toList
  | .clo fn fst cap, x => ∃ xs ys, x = .func fn xs ys ∧ Rvs n g fst xs.toList ∧ Rvs n g cap ys.toList
  | .gp i v off, x => i < n ∧ v < (g i).4 ∧ ∃ a, x = .pointer (some a) ∧ (v + 1 = (g i).4 → a = ⟨(g i).1, (g i).2 + off, none⟩)
  | .gs i v es len, x => i < n ∧ v < (g i).4 ∧ ∃ a cap, x = .slice (some a) len cap ∧ len ≤ cap ∧ (v + 1 = (g i).4 → a = ⟨(g i).1, (g i).2, none⟩ ∧ cap * es ≤ (g i).3)
  | .mp i, x => i < n ∧ (g i).4 = 0 ∧ x = .map (some (g i).1)
  | .any, _ => True
  | .sk i off len cap, x => i < n ∧ (g i).4 = 0 ∧ ∃ a, x = .slice a len cap ∧ len ≤ cap ∧ (0 < cap → a = some ⟨(g i).1, (g i).2 + off, none⟩)
def Rvs (n : Nat) (g : Nat → Pl) : List V → List Value → Prop
  | [], xs => xs = []
  | v :: vs, xs => ∃ y ys, xs = y :: ys ∧ Rv n g v y ∧ Rvs n g vs ys
end

/-- Cell 'j' of a block. -/
def B.get : B → Nat → Option V
  | .dead, _ => none
  | .cells cs, j => cs[j]?
  | .ints k l, j => (l[j]?).map (.int k)
  | .flts l, j => (l[j]?).map (fun b => .fl (some b))
  | .bools l, j => (l[j]?).map .bool
  | .gcells _ cs, j => cs[j]?
  | .gints _ k l, j => (l[j]?).map (.int k)
  | .gflts _ l, j => (l[j]?).map (fun b => .fl (some b))
  | .mpI _, _ => none

def B.live : B → Bool
  | .dead => false
  | _ => true
/-- Is it a row of cells? -/
def B.row : B → Bool
  | .dead | .mpI _ => false
  | _ => true
/-- The version of a row that grows, and one; 0 of all else. -/
def B.vof : B → Nat
  | .gcells v _ | .gints v _ _ | .gflts v _ => v + 1
  | _ => 0
/-- A key of two whole numbers. -/
def keyV (a b : Int) : Value := .agg #[.int .i64 a, .int .i64 b]
/-- The map's entries are what 'f' says. -/
structure MapRel (f : Int → Int → Option Int) (es : Array MapEntry) : Prop where
  key : ∀ e ∈ es.toList, ∃ a b z, e.key = keyV a b ∧ e.val = .int .i64 z ∧ f a b = some z
  all : ∀ a b z, f a b = some z → ∃ e ∈ es.toList, e.key = keyV a b
  one : es.toList.Pairwise (fun a b => a.key ≠ b.key)

/-- Block 'b' lies at 'p'. -/
structure RepB (n : Nat) (g : Nat → Pl) (w : World) (p : Pl) (b : Blk) : Prop where
  size : p.1 < w.heap.size
  cell : ∀ j v, b.b.get j = some v → ∃ x, w.cell? ⟨p.1, p.2 + j, none⟩ = some x ∧ Rv n g v x
  free : b.w = true → b.b.live = true → ∀ j, w.frozen? ⟨p.1, j, none⟩ = false
  room : b.b.live = true → ∀ j, j < p.3 → ∃ y, w.cell? ⟨p.1, p.2 + j, none⟩ = some y
  map : ∀ f, b.b = .mpI f → ∃ es ck, w.heap[p.1]? = some (.map es ck) ∧ MapRel f es
  ver : b.b.vof = p.4

/-- The blocks that may be written. -/
def Foot (g : Nat → Pl) (m : List Blk) (p : Nat) : Prop := ∃ i b, m[i]? = some b ∧ b.w = true ∧ (g i).1 = p

structure Rep (g : Nat → Pl) (m : List Blk) (w : World) : Prop where
  blk : ∀ i b, m[i]? = some b → RepB m.length g w (g i) b
  apart : ∀ i j b c, i ≠ j → m[i]? = some b → m[j]? = some c → b.w = true → b.b.live = true → c.b.live = true → (g i).1 ≠ (g j).1

/-- From one state to a later one. -/
structure Step (g : Nat → Pl) (m : List Blk) (w : World) (g' : Nat → Pl) (m' : List Blk) (w' : World) : Prop where
  len : m.length ≤ m'.length
  agree : ∀ i, i < m.length → (getB m i).b.vof ≤ (getB m' i).b.vof ∧ (g' i = g i ∨ ((getB m i).b.vof < (getB m' i).b.vof ∧ 0 < (g i).4 ∧ (g i).4 < (g' i).4))
  os : w'.os = w.os
  tape : w'.tape = w.tape
  output : w'.output = w.output
  size : w.heap.size ≤ w'.heap.size
  same : ∀ p, p < w.heap.size → ¬ Foot g m p → w'.heap[p]? = w.heap[p]?
  foot : ∀ p, p < w.heap.size → Foot g' m' p → Foot g m p

/-- The contract of a call: from 'args' and 'm' it comes to 'r' and 'm''. -/
def Ok (P : Program) (ng : Nat) (f : FuncId) (args : List V) (m : List Blk) (r : V) (m' : List Blk) : Prop :=
  ∀ g w xs, (ng ≤ m.length ∧ ∀ i, i < ng → g i = ⟨i, 0, 0, 0⟩) → Rep g m w → Rvs m.length g args xs →
    Calls P f xs.toArray w fun e w' => ∃ g' x, e = .returned x ∧ Rv m'.length g' r x ∧ Rep g' m' w' ∧ Step g m w g' m' w'

end Go.Eng
