import Derived.WalkKit
import Derived.WalkLawsBesides
import Derived.KernelRfl
/- The engine: parts 1 to 5. No condition. -/
/- The engine, part 1: abstract values and memory, and the evaluator 'ev', which turns a function's code into a proposition over abstract states. No condition: definitions alone. -/
namespace Go.Eng
open Go

/-- Where an abstract block lies: its block in the heap, its first cell, how many cells are sure to be there, and its version (0: it never moves). -/
structure Pl where
  b : Nat
  off : Nat
  room : Nat
  ver : Nat

/-- An abstract value: pointers go to abstract blocks by number. 'gp', 'gs': into a row that grows, at a version of it; 'mp': a map; 'sk': a slice of known capacity. -/
inductive V where
  | bool (b : Bool)
  | int (k : IntKind) (n : Int)
  | fl (o : Option Nat)
  | raw (v : Value)
  | ptr (i off : Nat)
  | sl (i off len : Nat)
  | agg (cs : List V)
  | tup (vs : List V)
  | clo (fn : Fn) (fst cap : List V)
  | gp (i v off : Nat)
  | gs (i v es len : Nat)
  | mp (i : Nat)
  | sk (i off len cap : Nat)
  | any

abbrev V.un : V := .raw undef

/-- What an abstract block holds. -/
inductive B where
  | dead
  | cells (cs : List V)
  | ints (k : IntKind) (l : List Int)
  | flts (l : List Nat)
  | bools (l : List Bool)
  | gints (v : Nat) (k : IntKind) (l : List Int)
  | gflts (v : Nat) (l : List Nat)
  | gcells (v : Nat) (cs : List V)
  | mpI (f : Int → Int → Option Int)

/-- An abstract block: may it be written? -/
structure Blk where
  w : Bool
  b : B

def ofVal1 : Value → V
  | .bool b => .bool b
  | .int k n => .int k n
  | .float .f64 b => .fl (some b)
  | v => .raw v
def ofVals : List Value → List V
  | [] => []
  | v :: vs => ofVal1 v :: ofVals vs
def ofVal : Value → V
  | .agg cs => .agg (ofVals cs.toList)
  | v => ofVal1 v

def getT : List V → Nat → V
  | [], _ => .un
  | v :: _, 0 => v
  | _ :: vs, n + 1 => getT vs n

/-- A value whose head is laid open, then on. -/
def fV : V → (V → Prop) → Prop
  | .bool b, K => K (.bool b)
  | .int k n, K => K (.int k n)
  | .fl o, K => K (.fl o)
  | .raw v, K => K (.raw v)
  | .ptr i o, K => K (.ptr i o)
  | .sl i o n, K => K (.sl i o n)
  | .agg cs, K => K (.agg cs)
  | .tup vs, K => K (.tup vs)
  | .clo a b c, K => K (.clo a b c)
  | .gp i v o, K => K (.gp i v o)
  | .gs i v e n, K => K (.gs i v e n)
  | .mp i, K => K (.mp i)
  | .sk i o n c, K => K (.sk i o n c)
  | .any, K => K .any

/-- All values of a list laid open, then on. -/
noncomputable def fVs (l : List V) : (List V → Prop) → Prop :=
  List.rec (motive := fun _ => (List V → Prop) → Prop) (fun K => K []) (fun v _ ih K => fV v fun v => ih fun vs => K (v :: vs)) l

noncomputable def setT (l : List V) : Nat → V → (List V → Prop) → Prop :=
  List.rec (motive := fun _ => Nat → V → (List V → Prop) → Prop) (fun _ _ K => K [])
    (fun a vs ih n v K => match n with
      | 0 => K (v :: vs)
      | n + 1 => ih n v fun l => K (a :: l)) l

def getB : List Blk → Nat → Blk
  | [], _ => ⟨false, .dead⟩
  | b :: _, 0 => b
  | _ :: bs, n + 1 => getB bs n

noncomputable def setB (l : List Blk) : Nat → Blk → (List Blk → Prop) → Prop :=
  List.rec (motive := fun _ => Nat → Blk → (List Blk → Prop) → Prop) (fun _ _ K => K [])
    (fun a bs ih n b K => match n with
      | 0 => K (b :: bs)
      | n + 1 => ih n b fun l => K (a :: l)) l

/-- The list with one block more, and that block's number. -/
noncomputable def addB (l : List Blk) : Blk → (Nat → List Blk → Prop) → Prop :=
  List.rec (motive := fun _ => Blk → (Nat → List Blk → Prop) → Prop) (fun b K => K 0 [b]) (fun a _ ih b K => ih b fun n l => K (n + 1) (a :: l)) l

/-- Decides what is decided by sight. -/
def br : Bool → Prop → Prop → Prop
  | true, A, _ => A
  | false, _, B => B

theorem br_intro {c : Bool} {A B : Prop} (h : c = true → A) (h' : c = false → B) : br c A B := by
  cases c
  · exact h' rfl
  · exact h rfl
theorem br_yes {c : Bool} {A B : Prop} (h : c = true) (h' : A) : br c A B := by subst h; exact h'
theorem br_no {c : Bool} {A B : Prop} (h : c = false) (h' : B) : br c A B := by subst h; exact h'

/-! ### Floats -/
abbrev f64 : Ieee.Format := Ieee.double
/-- The bits of a NaN. -/
def nanB (b : Nat) : Prop := b < 2 ^ 64 ∧ f64.infRung < b % f64.signWeight
def fden : Option Nat → Nat → Prop
  | some c, b => b = c
  | none, b => nanB b
def fop2 (f : Nat → Nat → Option Nat) : Option Nat → Option Nat → Option Nat
  | some a, some b => f a b
  | _, _ => none
def fadd := fop2 f64.add
def fsub := fop2 f64.sub
def fmul := fop2 f64.mul
def fdiv := fop2 f64.div
def fcmp : Option Nat → Option Nat → Option Ordering
  | some a, some b => f64.order a b
  | _, _ => none
def feq (a b : Option Nat) : Bool := fcmp a b == some .eq
def fne (a b : Option Nat) : Bool := fcmp a b != some .eq
def flt (a b : Option Nat) : Bool := fcmp a b == some .lt
def fle (a b : Option Nat) : Bool := fcmp a b == some .lt || fcmp a b == some .eq
def fgt (a b : Option Nat) : Bool := fcmp a b == some .gt
def fge (a b : Option Nat) : Bool := fcmp a b == some .gt || fcmp a b == some .eq
def fneg : Option Nat → Option Nat
  | some a => some (Op.negFloat .f64 a)
  | none => none
def fsqrt : Option Nat → Option Nat
  | some a => f64.sqrt a
  | none => none

/-! ### Operands -/
def evO (ng : Nat) (t : List V) : Operand → V
  | .tmp n => getT t n
  | .const v => ofVal v
  | .global g => match Nat.blt g ng with
    | true => .ptr g 0
    | false => .raw (.pointer (some ⟨g, 0, none⟩))
  | .func f => .clo (.func f) [] []
noncomputable def evArgs (ng : Nat) (t : List V) (l : List Operand) : (List V → Prop) → Prop :=
  List.rec (motive := fun _ => (List V → Prop) → Prop) (fun K => K []) (fun o _ ih K => fV (evO ng t o) fun v => ih fun vs => K (v :: vs)) l

/-! ### Memory -/
def ltL : Nat → List V → Bool
  | _, [] => false
  | 0, _ :: _ => true
  | n + 1, _ :: l => ltL n l
/-- One cell. -/
noncomputable def rd1 : B → Nat → (V → Prop) → Prop
  | .cells cs, off, K => br (ltL off cs) (fV (getT cs off) K) False
  | .ints k l, off, K => br (Nat.blt off l.length) (K (.int k (l.getD off 0))) False
  | .flts l, off, K => br (Nat.blt off l.length) (K (.fl (some (l.getD off 0)))) False
  | .bools l, off, K => br (Nat.blt off l.length) (K (.bool (l.getD off false))) False
  | .gcells _ cs, off, K => br (ltL off cs) (fV (getT cs off) K) False
  | .gints _ k l, off, K => br (Nat.blt off l.length) (K (.int k (l.getD off 0))) False
  | .gflts _ l, off, K => br (Nat.blt off l.length) (K (.fl (some (l.getD off 0)))) False
  | .dead, _, _ => False
  | .mpI _, _, _ => False
noncomputable def rdN (b : B) (off n : Nat) : (List V → Prop) → Prop :=
  Nat.rec (motive := fun _ => Nat → (List V → Prop) → Prop) (fun _ K => K []) (fun _ ih off K => rd1 b off fun v => ih (off + 1) fun vs => K (v :: vs)) n off
/-- Is it the value of one cell? -/
def V.one : V → Bool
  | .bool _ | .int _ _ | .fl _ | .ptr _ _ | .sl _ _ _ | .clo _ _ _ | .gp _ _ _ | .gs _ _ _ _ | .mp _ | .sk _ _ _ _ => true
  | .raw (.agg _) => false
  | .raw (.tuple _) => false
  | .raw _ => true
  | _ => false
def sameKind : IntKind → IntKind → Bool
  | .i8, .i8 | .i16, .i16 | .i32, .i32 | .i64, .i64 | .u8, .u8 | .u16, .u16 | .u32, .u32 | .u64, .u64 => true
  | _, _ => false
noncomputable def wr1 : B → Nat → V → (B → Prop) → Prop
  | .cells cs, off, v, K => br (ltL off cs && v.one) (setT cs off v fun cs => K (.cells cs)) False
  | .ints k l, off, .int k' n, K => br (sameKind k k' && Nat.blt off l.length) (K (.ints k (l.set off n))) False
  | .flts l, off, .fl (some b), K => br (Nat.blt off l.length) (K (.flts (l.set off b))) False
  | .bools l, off, .bool b, K => br (Nat.blt off l.length) (K (.bools (l.set off b))) False
  | .gcells w cs, off, v, K => br (ltL off cs && v.one) (setT cs off v fun cs => K (.gcells w cs)) False
  | .gints w k l, off, .int k' n, K => br (sameKind k k' && Nat.blt off l.length) (K (.gints w k (l.set off n))) False
  | .gflts w l, off, .fl (some b), K => br (Nat.blt off l.length) (K (.gflts w (l.set off b))) False
  | _, _, _, _ => False
noncomputable def wrN (b : B) (off : Nat) (l : List V) : (B → Prop) → Prop :=
  List.rec (motive := fun _ => B → Nat → (B → Prop) → Prop) (fun b _ K => K b) (fun v _ ih b off K => wr1 b off v fun b => ih b (off + 1) K) l b off
def V.cellsL : V → List V
  | .agg cs => cs
  | v => [v]
def lenL : List V → Nat
  | [] => 0
  | _ :: l => lenL l + 1
def allOne : List V → Bool
  | [] => true
  | v :: l => v.one && allOne l
def isAggD : Option TypeDesc → Bool
  | some (.struct _) | some (.array _ _) => true
  | _ => false

/-! ### Parts of aggregates -/
def takeL : Nat → List V → List V
  | 0, _ => []
  | _, [] => []
  | n + 1, v :: l => v :: takeL n l
def dropL : Nat → List V → List V
  | 0, l => l
  | _, [] => []
  | n + 1, _ :: l => dropL n l
noncomputable def partV (P : Program) (t : TypeId) (cs : List V) (off : Nat) (K : V → Prop) : Prop :=
  match isAggD (P.underlying t) with
  | true => br (Nat.ble (off + P.cellsOf t) (lenL cs)) (fVs (takeL (P.cellsOf t) (dropL off cs)) fun l => K (.agg l)) False
  | false => match P.underlying t with
    | some _ => br (ltL off cs) (fV (getT cs off) K) False
    | none => False
/-- 'z' with 'vs' from place 'off' on. -/
def pasteL : List V → Nat → List V → List V
  | z, _, [] => z
  | z, off, v :: vs => pasteL (z.set off v) (off + 1) vs
def zeroL (P : Program) (t : TypeId) : Option (List V) :=
  match P.info? t with
  | some i => match i.zero with
    | some z => some (ofVals z.cells.toList)
    | none => none
  | none => none
def fieldOf : Option TypeDesc → Nat → Option Field
  | some (.struct fs), i => fs.toList[i]?
  | _, _ => none
noncomputable def fillV (place : Nat → Option (Nat × Nat)) (z : List V) (l : List (Nat × V)) : (List V → Prop) → Prop :=
  List.rec (motive := fun _ => List V → (List V → Prop) → Prop) (fun z K => K z)
    (fun p _ ih z K => match place p.1 with
      | some (off, sz) => br (Nat.beq (lenL p.2.cellsL) sz && Nat.ble (off + lenL p.2.cellsL) (lenL z) && allOne p.2.cellsL) (fVs (pasteL z off p.2.cellsL) fun z => ih z K) False
      | none => False) l z
noncomputable def evParts (ng : Nat) (t : List V) (l : List (Nat × Operand)) : (List (Nat × V) → Prop) → Prop :=
  List.rec (motive := fun _ => (List (Nat × V) → Prop) → Prop) (fun K => K []) (fun p _ ih K => fV (evO ng t p.2) fun v => ih fun l => K ((p.1, v) :: l)) l

/-! ### What an abstract state says of a world -/
mutual
/-- The value 'x' is what 'v' says, at the blocks 'i < n' laid by 'g'. -/
def Rv (n : Nat) (g : Nat → Pl) : V → Value → Prop
  | .bool b, x => x = .bool b
  | .int k a, x => x = .int k a
  | .fl o, x => ∃ b, fden o b ∧ x = .float .f64 b
  | .raw v, x => x = v
  | .ptr i off, x => i < n ∧ (g i).4 = 0 ∧ x = .pointer (some ⟨(g i).1, (g i).2 + off, none⟩)
  | .sl i off len, x => i < n ∧ (g i).4 = 0 ∧ ∃ a cap, x = .slice a len cap ∧ len ≤ cap ∧ (0 < len → a = some ⟨(g i).1, (g i).2 + off, none⟩)
  | .agg cs, x => ∃ xs, x = .agg xs ∧ Rvs n g cs xs.toList
  | .tup cs, x => ∃ xs, x = .tuple xs ∧ Rvs n g cs xs.toList
  | .clo fn fst cap, x => ∃ xs ys, x = .func fn xs ys ∧ Rvs n g fst xs.toList ∧ Rvs n g cap ys.toList
  | .gp i v off, x => i < n ∧ v < (g i).4 ∧ ∃ a, x = .pointer (some a) ∧ (v + 1 = (g i).4 → a = ⟨(g i).1, (g i).2 + off, none⟩)
  | .gs i v es len, x => i < n ∧ v < (g i).4 ∧ ∃ a cap, x = .slice (some a) len cap ∧ len ≤ cap ∧ (v + 1 = (g i).4 → a = ⟨(g i).1, (g i).2, none⟩ ∧ cap * es ≤ (g i).3)
  | .mp i, x => i < n ∧ (g i).4 = 0 ∧ x = .map (some (g i).1)
  | .any, _ => True
  | .sk i off len cap, x => i < n ∧ (g i).4 = 0 ∧ ∃ a, x = .slice a len cap ∧ len ≤ cap ∧ (0 < cap → a = some ⟨(g i).1, (g i).2 + off, none⟩)
def Rvs (n : Nat) (g : Nat → Pl) : List V → List Value → Prop
  | [], xs => xs = []
  | v :: vs, xs => ∃ y ys, xs = y :: ys ∧ Rv n g v y ∧ Rvs n g vs ys
end

/-- Cell 'j' of a block. -/
def B.get : B → Nat → Option V
  | .dead, _ => none
  | .cells cs, j => cs[j]?
  | .ints k l, j => (l[j]?).map (.int k)
  | .flts l, j => (l[j]?).map (fun b => .fl (some b))
  | .bools l, j => (l[j]?).map .bool
  | .gcells _ cs, j => cs[j]?
  | .gints _ k l, j => (l[j]?).map (.int k)
  | .gflts _ l, j => (l[j]?).map (fun b => .fl (some b))
  | .mpI _, _ => none

def B.live : B → Bool
  | .dead => false
  | _ => true
/-- Is it a row of cells? -/
def B.row : B → Bool
  | .dead | .mpI _ => false
  | _ => true
/-- The version of a row that grows, and one; 0 of all else. -/
def B.vof : B → Nat
  | .gcells v _ | .gints v _ _ | .gflts v _ => v + 1
  | _ => 0
/-- A key of two whole numbers. -/
def keyV (a b : Int) : Value := .agg #[.int .i64 a, .int .i64 b]
/-- The map's entries are what 'f' says. -/
structure MapRel (f : Int → Int → Option Int) (es : Array MapEntry) : Prop where
  key : ∀ e ∈ es.toList, ∃ a b z, e.key = keyV a b ∧ e.val = .int .i64 z ∧ f a b = some z
  all : ∀ a b z, f a b = some z → ∃ e ∈ es.toList, e.key = keyV a b
  one : es.toList.Pairwise (fun a b => a.key ≠ b.key)

/-- Block 'b' lies at 'p'. -/
structure RepB (n : Nat) (g : Nat → Pl) (w : World) (p : Pl) (b : Blk) : Prop where
  size : p.1 < w.heap.size
  cell : ∀ j v, b.b.get j = some v → ∃ x, w.cell? ⟨p.1, p.2 + j, none⟩ = some x ∧ Rv n g v x
  free : b.w = true → b.b.live = true → ∀ j, w.frozen? ⟨p.1, j, none⟩ = false
  room : b.b.live = true → ∀ j, j < p.3 → ∃ y, w.cell? ⟨p.1, p.2 + j, none⟩ = some y
  map : ∀ f, b.b = .mpI f → ∃ es ck, w.heap[p.1]? = some (.map es ck) ∧ MapRel f es
  ver : b.b.vof = p.4

/-- The blocks that may be written. -/
def Foot (g : Nat → Pl) (m : List Blk) (p : Nat) : Prop := ∃ i b, m[i]? = some b ∧ b.w = true ∧ (g i).1 = p

structure Rep (g : Nat → Pl) (m : List Blk) (w : World) : Prop where
  blk : ∀ i b, m[i]? = some b → RepB m.length g w (g i) b
  apart : ∀ i j b c, i ≠ j → m[i]? = some b → m[j]? = some c → b.w = true → b.b.live = true → c.b.live = true → (g i).1 ≠ (g j).1

/-- From one state to a later one. -/
structure Step (g : Nat → Pl) (m : List Blk) (w : World) (g' : Nat → Pl) (m' : List Blk) (w' : World) : Prop where
  len : m.length ≤ m'.length
  agree : ∀ i, i < m.length → (getB m i).b.vof ≤ (getB m' i).b.vof ∧ (g' i = g i ∨ ((getB m i).b.vof < (getB m' i).b.vof ∧ 0 < (g i).4 ∧ (g i).4 < (g' i).4))
  os : w'.os = w.os
  tape : w'.tape = w.tape
  output : w'.output = w.output
  size : w.heap.size ≤ w'.heap.size
  same : ∀ p, p < w.heap.size → ¬ Foot g m p → w'.heap[p]? = w.heap[p]?
  foot : ∀ p, p < w.heap.size → Foot g' m' p → Foot g m p

/-- The contract of a call: from 'args' and 'm' it comes to 'r' and 'm''. -/
def Ok (P : Program) (ng : Nat) (f : FuncId) (args : List V) (m : List Blk) (r : V) (m' : List Blk) : Prop :=
  ∀ g w xs, (ng ≤ m.length ∧ ∀ i, i < ng → g i = ⟨i, 0, 0, 0⟩) → Rep g m w → Rvs m.length g args xs →
    Calls P f xs.toArray w fun e w' => ∃ g' x, e = .returned x ∧ Rv m'.length g' r x ∧ Rep g' m' w' ∧ Step g m w g' m' w'

end Go.Eng
/- The engine, part 2: the evaluator. No condition: definitions alone. -/
namespace Go.Eng
open Go

/-! ### Operations on values -/
def bitV (op : BinOp) (k : IntKind) (a b : Int) : Int :=
  match op with
  | .and => k.wrap (BitVec.ofInt k.bits a &&& BitVec.ofInt k.bits b).toNat
  | .or => k.wrap (BitVec.ofInt k.bits a ||| BitVec.ofInt k.bits b).toNat
  | .xor => k.wrap (BitVec.ofInt k.bits a ^^^ BitVec.ofInt k.bits b).toNat
  | _ => k.wrap (BitVec.ofInt k.bits a &&& ~~~(BitVec.ofInt k.bits b)).toNat
noncomputable def evBin (op : BinOp) (x y : V) (K : V → Prop) : Prop :=
  match op, x, y with
  | .shl, .int k a, .int _ b => br (decide (0 ≤ b)) (K (.int k (k.wrap (a * 2 ^ min b.toNat k.bits)))) False
  | .shr, .int k a, .int _ b => br (decide (0 ≤ b)) (K (.int k (a.fdiv (2 ^ min b.toNat k.bits)))) False
  | .add, .int k a, .int k' b => br (sameKind k k') (K (.int k (k.wrap (a + b)))) False
  | .sub, .int k a, .int k' b => br (sameKind k k') (K (.int k (k.wrap (a - b)))) False
  | .mul, .int k a, .int k' b => br (sameKind k k') (K (.int k (k.wrap (a * b)))) False
  | .quo, .int k a, .int k' b => br (sameKind k k') (br (b != 0) (K (.int k (k.wrap (a.tdiv b)))) False) False
  | .rem, .int k a, .int k' b => br (sameKind k k') (br (b != 0) (K (.int k (a.tmod b))) False) False
  | .and, .int k a, .int k' b => br (sameKind k k') (K (.int k (bitV .and k a b))) False
  | .or, .int k a, .int k' b => br (sameKind k k') (K (.int k (bitV .or k a b))) False
  | .xor, .int k a, .int k' b => br (sameKind k k') (K (.int k (bitV .xor k a b))) False
  | .andNot, .int k a, .int k' b => br (sameKind k k') (K (.int k (bitV .andNot k a b))) False
  | .lss, .int k a, .int k' b => br (sameKind k k') (K (.bool (decide (a < b)))) False
  | .leq, .int k a, .int k' b => br (sameKind k k') (K (.bool (decide (a ≤ b)))) False
  | .gtr, .int k a, .int k' b => br (sameKind k k') (K (.bool (decide (a > b)))) False
  | .geq, .int k a, .int k' b => br (sameKind k k') (K (.bool (decide (a ≥ b)))) False
  | .eql, .int k a, .int k' b => br (sameKind k k') (K (.bool (a == b))) False
  | .neq, .int k a, .int k' b => br (sameKind k k') (K (.bool (a != b))) False
  | .add, .fl a, .fl b => K (.fl (fadd a b))
  | .sub, .fl a, .fl b => K (.fl (fsub a b))
  | .mul, .fl a, .fl b => K (.fl (fmul a b))
  | .quo, .fl a, .fl b => K (.fl (fdiv a b))
  | .eql, .fl a, .fl b => K (.bool (feq a b))
  | .neq, .fl a, .fl b => K (.bool (fne a b))
  | .lss, .fl a, .fl b => K (.bool (flt a b))
  | .leq, .fl a, .fl b => K (.bool (fle a b))
  | .gtr, .fl a, .fl b => K (.bool (fgt a b))
  | .geq, .fl a, .fl b => K (.bool (fge a b))
  | _, _, _ => False

def isPtrD : Option TypeDesc → Bool
  | some (.pointer _) => true
  | _ => false
def partO (P : Program) (t : TypeId) (cs : List V) (off : Nat) : Option V :=
  match isAggD (P.underlying t) with
  | true => match Nat.ble (off + P.cellsOf t) (lenL cs) with
    | true => some (.agg (takeL (P.cellsOf t) (dropL off cs)))
    | false => none
  | false => match ltL off cs with
    | true => some (getT cs off)
    | false => none
def eqArr (P : Program) (f : V → V → Option Bool) (e : TypeId) (cs ds : List V) : Nat → Nat → Option Bool
  | 0, _ => some true
  | n + 1, i => match partO P e cs (i * P.cellsOf e), partO P e ds (i * P.cellsOf e) with
    | some a, some b => match f a b, eqArr P f e cs ds n (i + 1) with
      | some p, some q => some (p && q)
      | _, _ => none
    | _, _ => none
def eqFs (P : Program) (f : TypeId → V → V → Option Bool) (cs ds : List V) : List Field → Option Bool
  | [] => some true
  | d :: fs => match d.name != "_", partO P d.type cs d.offset, partO P d.type ds d.offset with
    | true, some a, some b => match f d.type a b, eqFs P f cs ds fs with
      | some p, some q => some (p && q)
      | _, _ => none
    | _, _, _ => none
/-- Equality of whole numbers, truths, floats, and of arrays and structs of them. -/
def eqT (P : Program) : Nat → TypeId → V → V → Option Bool
  | 0, _, _, _ => none
  | n + 1, t, x, y => match P.underlying t, x, y with
    | some (.int _), .int k a, .int k' b => match sameKind k k' with
      | true => some (a == b)
      | false => none
    | some .bool, .bool a, .bool b => some (a == b)
    | some (.float .f64), .fl a, .fl b => some (feq a b)
    | some (.array len e), .agg cs, .agg ds => match P.underlying e with
      | some _ => eqArr P (eqT P n e) e cs ds len 0
      | none => none
    | some (.struct fs), .agg cs, .agg ds => match P.stoodInHeld t with
      | true => none
      | false => eqFs P (eqT P n) cs ds fs.toList
    | _, _, _ => none
def isStructD : Option TypeDesc → Bool
  | some (.struct _) => true
  | _ => false
def isSlcD : Option TypeDesc → Bool
  | some (.slice _) => true
  | _ => false
noncomputable def evEq (P : Program) (t : TypeId) (x y : V) (K : Bool → Prop) : Prop :=
  match x, y with
  | .agg cs, .agg ds => match isStructD (P.underlying t) with
    | true => ∃ b, (P.eqGuardType P.depth t = false ∧ eqT P 6 t (.agg cs) (.agg ds) = some b) ∧ K b
    | false => match P.eqGuardType P.depth t, eqT P 6 t (.agg cs) (.agg ds) with
      | false, some b => K b
      | _, _ => False
  | .ptr _ _, .raw (.pointer none) => match isPtrD (P.underlying t) with | true => K false | false => False
  | .raw (.pointer none), .ptr _ _ => match isPtrD (P.underlying t) with | true => K false | false => False
  | .raw (.pointer none), .raw (.pointer none) => match isPtrD (P.underlying t) with | true => K true | false => False
  | .sl _ _ n, .raw (.slice none 0 0) => match isSlcD (P.underlying t) with | true => br (Nat.blt 0 n) (K false) False | false => False
  | .sk _ _ n _, .raw (.slice none 0 0) => match isSlcD (P.underlying t) with | true => br (Nat.blt 0 n) (K false) False | false => False
  | .gs _ _ _ _, .raw (.slice none 0 0) => match isSlcD (P.underlying t) with | true => K false | false => False
  | .raw (.slice none _ _), .raw (.slice none 0 0) => match isSlcD (P.underlying t) with | true => K true | false => False
  | .raw (.slice (some _) _ _), .raw (.slice none 0 0) => match isSlcD (P.underlying t) with | true => K false | false => False
  | _, _ => False
noncomputable def evBinary (P : Program) (op : BinOp) (t : TypeId) (x y : V) (K : V → Prop) : Prop :=
  match op, x, y with
  | .eql, .bool a, .bool b => match P.underlying t with | some .bool => K (.bool (a == b)) | _ => False
  | .neq, .bool a, .bool b => match P.underlying t with | some .bool => K (.bool (!(a == b))) | _ => False
  | .eql, .agg cs, y => evEq P t (.agg cs) y fun b => K (.bool b)
  | .neq, .agg cs, y => evEq P t (.agg cs) y fun b => K (.bool (!b))
  | .eql, .ptr i o, y => evEq P t (.ptr i o) y fun b => K (.bool b)
  | .neq, .ptr i o, y => evEq P t (.ptr i o) y fun b => K (.bool (!b))
  | .eql, .raw v, y => evEq P t (.raw v) y fun b => K (.bool b)
  | .neq, .raw v, y => evEq P t (.raw v) y fun b => K (.bool (!b))
  | .eql, .sl i o n, y => evEq P t (.sl i o n) y fun b => K (.bool b)
  | .neq, .sl i o n, y => evEq P t (.sl i o n) y fun b => K (.bool (!b))
  | .eql, .sk i o n c, y => evEq P t (.sk i o n c) y fun b => K (.bool b)
  | .neq, .sk i o n c, y => evEq P t (.sk i o n c) y fun b => K (.bool (!b))
  | .eql, .gs i v e n, y => evEq P t (.gs i v e n) y fun b => K (.bool b)
  | .neq, .gs i v e n, y => evEq P t (.gs i v e n) y fun b => K (.bool (!b))
  | op, x, y => evBin op x y K
def evUn (op : UnOp) (x : V) (K : V → Prop) : Prop :=
  match op, x with
  | .not, .bool b => K (.bool (!b))
  | .neg, .int k n => K (.int k (k.wrap (0 - n)))
  | .xor, .int k n => K (.int k (bitV .xor k (match k.signed with | true => -1 | false => k.max) n))
  | .neg, .fl o => K (.fl (fneg o))
  | _, _ => False
def fToI (o : Option Nat) (k : IntKind) : Option Int :=
  match o with
  | some b => floatToIntVal .f64 b k
  | none => none
def evConv (P : Program) (s d : TypeId) (x : V) (K : V → Prop) : Prop :=
  match P.underlying s, P.underlying d, x with
  | some _, some (.int k), .int _ n => K (.int k (k.wrap n))
  | some _, some (.float .f64), .int _ n => K (.fl (some (FloatKind.nearest .f64 n)))
  | some _, some (.int k), .fl o => ∃ n, fToI o k = some n ∧ K (.int k n)
  | some _, some (.float .f64), .fl o => K (.fl o)
  | _, _, _ => False

/-! ### Memory -/
inductive Zero where
  | int (k : IntKind) | fl | bool | no
def zkind : List V → Zero
  | [.int k _] => .int k
  | .int k _ :: l => match zkind l with
    | .int k' => match sameKind k k' with | true => .int k | false => .no
    | _ => .no
  | [.fl _] => .fl
  | .fl _ :: l => match zkind l with | .fl => .fl | _ => .no
  | [.bool _] => .bool
  | _ => .no
def allZero : List V → Bool
  | [] => true
  | .int _ (.ofNat 0) :: l => allZero l
  | .fl (some 0) :: l => allZero l
  | .bool false :: l => allZero l
  | _ => false
/-- A row of n zeros. -/
noncomputable def zrow (P : Program) (e : TypeId) (n : Nat) (K : B → Prop) : Prop :=
  match zeroL P e with
  | some z => match allZero z, zkind z with
    | true, .int k => K (.ints k (List.replicate (n * P.cellsOf e) 0))
    | true, .fl => K (.flts (List.replicate (n * P.cellsOf e) 0))
    | true, .bool => K (.bools (List.replicate (n * P.cellsOf e) false))
    | _, _ => False
  | none => False
def sliceD : Option TypeDesc → Option TypeId
  | some (.slice e) => some e
  | _ => none
def arrayD : Option TypeDesc → Option (Nat × TypeId)
  | some (.array n e) => some (n, e)
  | _ => none
noncomputable def loadV (P : Program) (t : TypeId) (a : V) (m : List Blk) (K : V → Prop) : Prop :=
  match a with
  | .ptr i off => match isAggD (P.underlying t) with
    | true => rdN (getB m i).b off (P.cellsOf t) fun cs => K (.agg cs)
    | false => match P.underlying t with
      | some _ => rd1 (getB m i).b off K
      | none => False
  | .gp i v off => (getB m i).b.vof = v + 1 ∧ match isAggD (P.underlying t) with
    | true => rdN (getB m i).b off (P.cellsOf t) fun cs => K (.agg cs)
    | false => match P.underlying t with
      | some _ => rd1 (getB m i).b off K
      | none => False
  | _ => False
noncomputable def storeV (P : Program) (t : TypeId) (a v : V) (m : List Blk) (K : List Blk → Prop) : Prop :=
  match a with
  | .ptr i off => match (getB m i).w, (getB m i).b.row, Nat.beq (lenL v.cellsL) (P.cellsOf t), P.info? t with
    | true, true, true, some _ => wrN (getB m i).b off v.cellsL fun b => setB m i ⟨true, b⟩ K
    | _, _, _, _ => False
  | .gp i u off => (getB m i).b.vof = u + 1 ∧ match (getB m i).w, (getB m i).b.row, Nat.beq (lenL v.cellsL) (P.cellsOf t), P.info? t with
    | true, true, true, some _ => wrN (getB m i).b off v.cellsL fun b => setB m i ⟨true, b⟩ K
    | _, _, _, _ => False
  | _ => False
def boundV (ng : Nat) (t : List V) (lo : Nat) (hi : Nat) (o : Option Operand) (dflt : Nat) (K : Nat → Prop) : Prop :=
  match o with
  | none => K dflt
  | some o => match evO ng t o with
    | .int _ i => br (decide ((lo : Int) ≤ i ∧ i ≤ (hi : Int))) (K i.toNat) False
    | _ => False
def lenV (P : Program) (t : TypeId) (x : V) (K : V → Prop) : Prop :=
  match P.underlying t, x with
  | some (.slice _), .sl _ _ n => K (.int .i64 n)
  | some (.slice _), .gs _ _ _ n => K (.int .i64 n)
  | some (.slice _), .sk _ _ n _ => K (.int .i64 n)
  | some (.slice _), .raw (.slice _ 0 _) => K (.int .i64 0)
  | some (.array n _), _ => K (.int .i64 n)
  | _, _ => False
/-! ### Rows that grow, and maps -/
/-- So many cells of a row, from a cell on. -/
noncomputable def segB (b : B) (off n : Nat) (K : B → Prop) : Prop :=
  match b with
  | .ints k l => br (Nat.ble (off + n) l.length) (K (.ints k ((l.drop off).take n))) False
  | .flts l => br (Nat.ble (off + n) l.length) (K (.flts ((l.drop off).take n))) False
  | .gints _ k l => br (Nat.ble (off + n) l.length) (K (.ints k ((l.drop off).take n))) False
  | .gflts _ l => br (Nat.ble (off + n) l.length) (K (.flts ((l.drop off).take n))) False
  | b => rdN b off n fun cs => br (allOne cs) (K (.cells cs)) False
/-- The cells of a slice that is read. -/
noncomputable def srcV (es : Nat) (x : V) (m : List Blk) (K : Nat → B → Prop) : Prop :=
  match x with
  | .sl j off n => segB (getB m j).b off (n * es) fun b => K n b
  | .sk j off n _ => segB (getB m j).b off (n * es) fun b => K n b
  | .gs j v _ n => (getB m j).b.vof = v + 1 ∧ segB (getB m j).b 0 (n * es) fun b => K n b
  | .raw (.slice _ 0 _) => K 0 (.cells [])
  | _ => False
def intsL (k : IntKind) : List V → Option (List Int)
  | [] => some []
  | .int k' n :: l => match sameKind k k', intsL k l with
    | true, some r => some (n :: r)
    | _, _ => none
  | _ :: _ => none
def fltsL : List V → Option (List Nat)
  | [] => some []
  | .fl (some b) :: l => match fltsL l with
    | some r => some (b :: r)
    | none => none
  | _ :: _ => none
/-- A new row that grows, of these cells. -/
def growNew (z : Zero) (b : B) (K : B → Prop) : Prop :=
  match z, b with
  | .int k, .ints k' l => match sameKind k k' with | true => K (.gints 0 k l) | false => False
  | .int k, .cells cs => match intsL k cs with | some l => K (.gints 0 k l) | none => False
  | .fl, .flts l => K (.gflts 0 l)
  | .fl, .cells cs => match fltsL cs with | some l => K (.gflts 0 l) | none => False
  | .no, .cells cs => K (.gcells 0 cs)
  | .bool, .cells cs => K (.gcells 0 cs)
  | _, _ => False
/-- A row that grows, grown by these cells. -/
def growB (b : B) (c : B) (K : B → Prop) : Prop :=
  match b, c with
  | .gints v k l, .ints k' r => match sameKind k k' with | true => K (.gints (v + 1) k (l ++ r)) | false => False
  | .gints v k l, .cells cs => match intsL k cs with | some r => K (.gints (v + 1) k (l ++ r)) | none => False
  | .gflts v l, .flts r => K (.gflts (v + 1) (l ++ r))
  | .gflts v l, .cells cs => match fltsL cs with | some r => K (.gflts (v + 1) (l ++ r)) | none => False
  | .gcells v l, .cells cs => K (.gcells (v + 1) (l ++ cs))
  | _, _ => False
/-- Cells put over those of a row, from a cell on. -/
def pasteB (b : B) (off : Nat) (c : B) (K : B → Prop) : Prop :=
  match b, c with
  | .ints k l, .ints k' r => br (sameKind k k' && Nat.ble (off + r.length) l.length) (K (.ints k (l.take off ++ r ++ l.drop (off + r.length)))) False
  | .ints k l, .cells cs => match intsL k cs with | some r => br (Nat.ble (off + r.length) l.length) (K (.ints k (l.take off ++ r ++ l.drop (off + r.length)))) False | none => False
  | .flts l, .flts r => br (Nat.ble (off + r.length) l.length) (K (.flts (l.take off ++ r ++ l.drop (off + r.length)))) False
  | .flts l, .cells cs => match fltsL cs with | some r => br (Nat.ble (off + r.length) l.length) (K (.flts (l.take off ++ r ++ l.drop (off + r.length)))) False | none => False
  | .cells l, .cells r => br (Nat.ble (off + r.length) l.length) (K (.cells (l.take off ++ r ++ l.drop (off + r.length)))) False
  | _, _ => False
def B.cnt : B → Nat
  | .gcells _ cs => cs.length
  | .gints _ _ l => l.length
  | .gflts _ l => l.length
  | _ => 0
/-- Joined rows. -/
def catB (b c : B) (K : B → Prop) : Prop :=
  match b, c with
  | .ints k l, .ints k' r => match sameKind k k' with | true => K (.ints k (l ++ r)) | false => False
  | .ints k l, .cells cs => match intsL k cs with | some r => K (.ints k (l ++ r)) | none => False
  | .flts l, .flts r => K (.flts (l ++ r))
  | .flts l, .cells cs => match fltsL cs with | some r => K (.flts (l ++ r)) | none => False
  | .cells l, .cells r => K (.cells (l ++ r))
  | .cells [], .ints k r => K (.ints k r)
  | .cells [], .flts r => K (.flts r)
  | _, _ => False
noncomputable def appendV (P : Program) (ty : TypeId) (s x : V) (m : List Blk) (K : V → List Blk → Prop) : Prop :=
  match sliceD (P.underlying ty) with
  | some e => match zeroL P e with
    | some z => br (Nat.beq (lenL z) (P.cellsOf e) && Nat.blt 0 (P.cellsOf e) && Nat.blt 0 (P.bytesOf e)) (srcV (P.cellsOf e) x m fun n c => match s with
        | .raw (.slice none 0 0) => (0 < n ∧ n * P.bytesOf e ≤ 140737488355328) ∧ growNew (zkind z) c fun b => addB m ⟨true, b⟩ fun i m => K (.gs i 0 (P.cellsOf e) n) m
        | .gs i v es len => ((getB m i).b.vof = v + 1 ∧ es = P.cellsOf e ∧ (getB m i).b.cnt = len * P.cellsOf e ∧ (len + n) * P.bytesOf e ≤ 140737488355328) ∧ match (getB m i).w with
          | true => growB (getB m i).b c fun b => setB m i ⟨true, b⟩ fun m => K (.gs i (v + 1) (P.cellsOf e) (len + n)) m
          | false => False
        | .sk i off len cap => (len + n) * P.bytesOf e ≤ 140737488355328 ∧ br (Nat.ble (len + n) cap)
          (match (getB m i).w with
            | true => pasteB (getB m i).b (off + len * P.cellsOf e) c fun b => setB m i ⟨true, b⟩ fun m => K (.sk i off (len + n) cap) m
            | false => False)
          (segB (getB m i).b off (len * P.cellsOf e) fun d => catB d c fun c => growNew (zkind z) c fun b => addB m ⟨true, b⟩ fun j m => K (.gs j 0 (P.cellsOf e) (len + n)) m)
        | _ => False) False
    | none => False
  | none => False
noncomputable def copyV (P : Program) (ty : TypeId) (d x : V) (m : List Blk) (K : V → List Blk → Prop) : Prop :=
  match sliceD (P.underlying ty), d with
  | some e, .sl i off n => br (Nat.blt 0 (P.cellsOf e)) (match x with
    | .sl j off' n' => segB (getB m j).b off' (min n' n * P.cellsOf e) fun c => match (getB m i).w with
      | true => pasteB (getB m i).b off c fun b => setB m i ⟨true, b⟩ fun m => K (.int .i64 (min n' n : Nat)) m
      | false => False
    | _ => False) False
  | _, _ => False
def zero64 : Option TypeInfo → Bool
  | some i => match i.zero with
    | some (.int .i64 (.ofNat 0)) => true
    | _ => false
  | none => false
/-- Is it a map from pairs of ints to ints? -/
def pairMap (P : Program) (t : TypeId) : Option TypeId :=
  match P.underlying t with
  | some (.map kt vt) => match P.underlying kt, P.stoodInHeld kt, zero64 (P.info? vt) with
    | some (.struct fs), false, true => match fs.toList with
      | [a, b] => match a.name != "_", b.name != "_", a.offset, b.offset, P.underlying a.type, P.underlying b.type, P.cellsOf a.type, P.cellsOf b.type with
        | true, true, 0, 1, some (.int _), some (.int _), 1, 1 => some kt
        | _, _, _, _, _, _, _, _ => none
      | _ => none
    | _, _, _ => none
  | _ => none
def updM (f : Int → Int → Option Int) (a b z : Int) : Int → Int → Option Int := fun x y => if x = a ∧ y = b then some z else f x y
def lookV (r : Option Int) (ok : Bool) (K : V → Prop) : Prop :=
  match ok with
  | true => match r with | some z => K (.tup [.int .i64 z, .bool true]) | none => K (.tup [.int .i64 0, .bool false])
  | false => match r with | some z => K (.int .i64 z) | none => K (.int .i64 0)
noncomputable def lookupV (P : Program) (ty : TypeId) (x k : V) (ok : Bool) (m : List Blk) (K : V → Prop) : Prop :=
  match x, k with
  | .mp i, .agg [.int .i64 a, .int .i64 b] => (∃ kt, pairMap P ty = some kt) ∧ match (getB m i).b with
    | .mpI f => lookV (f a b) ok K
    | _ => False
  | _, _ => False
noncomputable def mapUpdV (P : Program) (ty : TypeId) (x k v : V) (m : List Blk) (K : List Blk → Prop) : Prop :=
  match x, k, v with
  | .mp i, .agg [.int .i64 a, .int .i64 b], .int .i64 z => (∃ kt, pairMap P ty = some kt) ∧ match (getB m i).w, (getB m i).b with
    | true, .mpI f => setB m i ⟨true, .mpI (updM f a b z)⟩ K
    | _, _ => False
  | _, _, _ => False
def slcV (mx : Option Operand) (i off len cap : Nat) : V :=
  match mx with
  | none => .sl i off len
  | some _ => .sk i off len cap
/-- What 'make' answers: where length and capacity are one and the same, one may forget the capacity. -/
def pickSl (same : Bool) (i len cap : Nat) (K : V → Prop) : Prop :=
  match same with
  | true => K (.sl i 0 len) ∨ K (.sk i 0 len cap)
  | false => K (.sk i 0 len cap)
def sameO : Operand → Operand → Bool
  | .tmp a, .tmp b => Nat.beq a b
  | .const (.int _ (.ofNat a)), .const (.int _ (.ofNat b)) => Nat.beq a b
  | _, _ => false
noncomputable def maxV (gt : Bool) (l : List V) : V → (V → Prop) → Prop :=
  List.rec (motive := fun _ => V → (V → Prop) → Prop) (fun x K => K x)
    (fun y _ ih x K => match y, x with
      | .int k' b, .int k a => br (sameKind k k') (match gt with
        | true => ih (.int k (if b > a then b else a)) K
        | false => ih (.int k (if b < a then b else a)) K) False
      | _, _ => False) l
noncomputable def mmV (gt : Bool) : List V → (V → Prop) → Prop
  | .int k a :: l, K => maxV gt l (.int k a) K
  | _, _ => False

/-! ### Calls -/
/-- What a call of function 'f' comes to, be it a body or one of the model's own. -/
def COk (P : Program) (ng : Nat) (f : FuncId) (args : List V) (m : List Blk) (r : V) (m' : List Blk) : Prop :=
  ∀ g w xs, (ng ≤ m.length ∧ ∀ i, i < ng → g i = ⟨i, 0, 0, 0⟩) → Rep g m w → Rvs m.length g args xs →
    match (callFunc f xs.toArray).run P w with
    | .ok (.enter f' ys) w1 => Calls P f' ys w1 fun e w' => ∃ g' x, e = .returned x ∧ Rv m'.length g' r x ∧ Rep g' m' w' ∧ Step g m w g' m' w'
    | .ok (.value x) w' => ∃ g', Rv m'.length g' r x ∧ Rep g' m' w' ∧ Step g m w g' m' w'
    | _ => False
noncomputable def callVC (P : Program) (ng : Nat) (f : FuncId) (args : List V) (m : List Blk) (K : V → List Blk → Prop) : Prop :=
  ∃ r m', COk P ng f args m r m' ∧ fV r fun r => K r m'
def appL : List V → List V → List V
  | [], l => l
  | a :: l, l' => a :: appL l l'

/-- What 'buildSlice' answers: of no elements, with its room, which is none. -/
def bsV (i n : Nat) : V :=
  match Nat.beq n 0 with
  | true => .sk i 0 0 0
  | false => .sl i 0 n
theorem bsV_pos {n : Nat} (h : n ≠ 0) (i : Nat) : bsV i n = .sl i 0 n := by
  unfold bsV
  cases hn : Nat.beq n 0 with
  | true => exact absurd (Nat.eq_of_beq_eq_true hn) h
  | false => rfl
theorem bsV_inj {i a b : Nat} (h : bsV i a = bsV i b) : a = b := by
  by_cases ha : a = 0
  · subst ha
    by_cases hb : b = 0
    · exact hb.symm
    · rw [bsV_pos hb] at h; exact nomatch h
  · by_cases hb : b = 0
    · subst hb; rw [bsV_pos ha] at h; exact nomatch h
    · rw [bsV_pos ha, bsV_pos hb] at h; injection h
theorem bsV_ptr {i a j o : Nat} (h : bsV i a = .ptr j o) : False := by
  by_cases ha : a = 0
  · subst ha; exact nomatch h
  · rw [bsV_pos ha] at h; exact nomatch h
noncomputable def evOp (P : Program) (ng : Nat) (op : Op) (t : List V) (m : List Blk) (K : V → List Blk → Prop) : Prop :=
  match op with
  | .move x => fV (evO ng t x) fun v => K v m
  | .assign x => fV (evO ng t x) fun v => K v m
  | .pick c a b => match evO ng t c with
    | .bool true => fV (evO ng t a) fun v => K v m
    | .bool false => fV (evO ng t b) fun v => K v m
    | _ => False
  | .alloc e => match zeroL P e with
    | some z => br (allOne z) (addB m ⟨true, .cells z⟩ fun n m => K (.ptr n 0) m) False
    | none => False
  | .box _ x => fV (evO ng t x) fun v => br (allOne v.cellsL) (addB m ⟨true, .cells v.cellsL⟩ fun n m => K (.ptr n 0) m) False
  | .build ty ps => match P.info? ty, P.underlying ty with
    | some it, some (.array _ e) => match it.zero, P.info? e with
      | some z, some ie => evParts ng t ps.toList fun ps => fillV (fun i => some (i * ie.size, ie.size)) (ofVals z.cells.toList) ps fun cs => K (.agg cs) m
      | _, _ => False
    | some it, some (.struct fs) => match it.zero, fs.toList.mapM (fun f => (P.info? f.type).map fun i => (f.offset, i.size)) with
      | some z, some places => evParts ng t ps.toList fun ps => fillV (fun i => places.toArray[i]?) (ofVals z.cells.toList) ps fun cs => K (.agg cs) m
      | _, _ => False
    | _, _ => False
  | .buildSlice ty n ps => match sliceD (P.underlying ty) with
    | some e => match zeroL P e, Nat.blt 0 (P.cellsOf e), Nat.ble (n * P.cellsOf e) (2 ^ 24) with
      | some z, true, true => br (Nat.blt 0 (lenL z)) (evParts ng t ps.toList fun ps =>
          fillV (fun i => some (i * P.cellsOf e, P.cellsOf e)) ((List.range (n * P.cellsOf e)).map fun j => getT z (j % lenL z)) ps fun cs =>
            br (allOne cs) (addB m ⟨true, .cells cs⟩ fun i m => K (bsV i n) m) False) False
      | _, _, _ => False
    | none => False
  | .load ty a => loadV P ty (evO ng t a) m fun v => K v m
  | .store ty a x => fV (evO ng t x) fun v => storeV P ty (evO ng t a) v m fun m => K .un m
  | .nilCheck x => match evO ng t x with
    | .ptr i o => K (.ptr i o) m
    | .gp i v o => K (.gp i v o) m
    | .clo (.func f) a b => K (.clo (.func f) a b) m
    | _ => False
  | .binOp op xt x y _ => evBinary P op xt (evO ng t x) (evO ng t y) fun v => K v m
  | .unOp op _ x => evUn op (evO ng t x) fun v => K v m
  | .convert s d x => evConv P s d (evO ng t x) fun v => K v m
  | .makeFunc fn a b => evArgs ng t a.toList fun a => evArgs ng t b.toList fun b => K (.clo fn a b) m
  | .makeSlice ty lo co => match sliceD (P.underlying ty), evO ng t lo, evO ng t co with
    | some e, .int _ l, .int _ c => br (decide (0 ≤ l ∧ l ≤ c ∧ c ≤ 2 ^ 48 ∧ (P.bytesOf e : Int) * c ≤ 2 ^ 48))
        (br (Nat.blt 0 (P.cellsOf e)) (zrow P e c.toNat fun b => addB m ⟨true, b⟩ fun i m => pickSl (sameO lo co) i l.toNat c.toNat fun v => K v m) False) False
    | _, _, _ => False
  | .slice _ _ _ none (some _) => False
  | .slice ty x lo hi mx => match P.underlying ty, evO ng t x with
    | some (.array n e), .ptr i off => br (Nat.blt 0 (P.cellsOf e)) (boundV ng t 0 n mx n fun c => boundV ng t 0 c hi n fun h => boundV ng t 0 h lo 0 fun l => K (.sl i (off + l * P.cellsOf e) (h - l)) m) False
    | some (.slice e), .sl i off n => br (Nat.blt 0 (P.cellsOf e)) (boundV ng t 0 n mx n fun c => boundV ng t 0 c hi n fun h => boundV ng t 0 h lo 0 fun l => K (slcV mx i (off + l * P.cellsOf e) (h - l) (c - l)) m) False
    | some (.slice e), .sk i off n cap => br (Nat.blt 0 (P.cellsOf e)) (boundV ng t 0 cap mx cap fun c => boundV ng t 0 c hi n fun h => boundV ng t 0 h lo 0 fun l => K (.sk i (off + l * P.cellsOf e) (h - l) (c - l)) m) False
    | _, _ => False
  | .fieldAddr s x i => match evO ng t x, fieldOf (P.underlying s) i with
    | .ptr j off, some f => match P.cellsOf f.type with
      | 0 => False
      | _ + 1 => K (.ptr j (off + f.offset)) m
    | .gp j v off, some f => match P.cellsOf f.type with
      | 0 => False
      | _ + 1 => K (.gp j v (off + f.offset)) m
    | _, _ => False
  | .field ty x i => match evO ng t x, fieldOf (P.underlying ty) i with
    | .agg cs, some f => partV P f.type cs f.offset fun v => K v m
    | _, _ => False
  | .indexAddr ty x ix => match P.underlying ty, evO ng t x, evO ng t ix with
    | some (.array n e), .ptr j off, .int _ i => br (Nat.blt 0 (P.cellsOf e)) (br (decide (0 ≤ i ∧ i < (n : Int))) (K (.ptr j (off + i.toNat * P.cellsOf e)) m) False) False
    | some (.slice e), .sl j off n, .int _ i => br (Nat.blt 0 (P.cellsOf e)) (br (decide (0 ≤ i ∧ i < (n : Int))) (K (.ptr j (off + i.toNat * P.cellsOf e)) m) False) False
    | some (.slice e), .gs j v _ n, .int _ i => br (Nat.blt 0 (P.cellsOf e)) (br (decide (0 ≤ i ∧ i < (n : Int))) (K (.gp j v (i.toNat * P.cellsOf e)) m) False) False
    | some (.slice e), .sk j off n _, .int _ i => br (Nat.blt 0 (P.cellsOf e)) (br (decide (0 ≤ i ∧ i < (n : Int))) (K (.ptr j (off + i.toNat * P.cellsOf e)) m) False) False
    | some (.array n e), .gp j v off, .int _ i => br (Nat.blt 0 (P.cellsOf e)) (br (decide (0 ≤ i ∧ i < (n : Int))) (K (.gp j v (off + i.toNat * P.cellsOf e)) m) False) False
    | _, _, _ => False
  | .index ty x ix => match P.underlying ty, evO ng t x, evO ng t ix with
    | some (.array n e), .agg cs, .int _ i => br (Nat.blt 0 (P.cellsOf e)) (br (decide (0 ≤ i ∧ i < (n : Int))) (partV P e cs (i.toNat * P.cellsOf e) fun v => K v m) False) False
    | some .string, .raw (.string s), .int _ i => match (if 0 ≤ i then s[i.toNat]? else none) with
      | some b => K (.int .u8 b.toNat) m
      | none => False
    | _, _, _ => False
  | .makeMap ty none => match P.underlying ty with
    | some (.map _ _) => addB m ⟨true, .mpI fun _ _ => none⟩ fun i m => K (.mp i) m
    | _ => False
  | .makeMap ty (some o) => match P.underlying ty, evO ng t o with
    | some (.map _ _), .int _ _ => addB m ⟨true, .mpI fun _ _ => none⟩ fun i m => K (.mp i) m
    | _, _ => False
  | .lookup ty x k ok => lookupV P ty (evO ng t x) (evO ng t k) ok m fun v => K v m
  | .mapUpdate ty x k v => mapUpdV P ty (evO ng t x) (evO ng t k) (evO ng t v) m fun m => K .un m
  | .extract x i => match evO ng t x with
    | .tup vs => br (ltL i vs) (fV (getT vs i) fun v => K v m) False
    | _ => False
  | .call c => match c.callee with
    | .value f => match evO ng t f with
      | .clo (.func f) a b => evArgs ng t c.args.toList fun vs => callVC P ng f (appL a (appL vs b)) m K
      | _ => False
    | .builtin .len => match c.args.toList, c.argTypes.toList with
      | [x], [ty] => lenV P ty (evO ng t x) fun v => K v m
      | _, _ => False
    | .builtin .append => match c.args.toList, c.argTypes.toList with
      | [s, x], [ty, tx] => match sliceD (P.underlying tx) with
        | some _ => appendV P ty (evO ng t s) (evO ng t x) m K
        | none => False
      | _, _ => False
    | .builtin .copy => match c.args.toList, c.argTypes.toList with
      | [d, x], ty :: _ => copyV P ty (evO ng t d) (evO ng t x) m K
      | _, _ => False
    | .builtin .max => evArgs ng t c.args.toList fun vs => mmV true vs fun v => K v m
    | .builtin .min => evArgs ng t c.args.toList fun vs => mmV false vs fun v => K v m
    | _ => False
  | _ => False

/-! ### Code -/
def dstOf : List Oper → Nat → Option Tmp
  | [], _ => none
  | o :: _, 0 => o.dst
  | _ :: os, n + 1 => dstOf os n
noncomputable def putK (d : Option Tmp) (t : List V) (v : V) (K : List V → Prop) : Prop :=
  match d with
  | some d => setT t d v K
  | none => K t
noncomputable def evOps (P : Program) (ng : Nat) (ops : List Oper) (l : List Oper) : List V → List Blk → (List V → List Blk → Prop) → Prop :=
  List.rec (motive := fun _ => List V → List Blk → (List V → List Blk → Prop) → Prop) (fun t m K => K t m)
    (fun o _ ih t m K => match o.guard with
      | none => evOp P ng o.op t m fun v m' => putK o.dst t v fun t' => ih t' m' K
      | some (j, want) =>
        match dstOf ops j with
        | some d => match getT t d with
          | .bool c =>
            br c
              (setT t d (.bool true) fun t => match want with
                | true => evOp P ng o.op t m fun v m' => putK o.dst t v fun t' => ih t' m' K
                | false => putK o.dst t .un fun t' => ih t' m K)
              (setT t d (.bool false) fun t => match want with
                | false => evOp P ng o.op t m fun v m' => putK o.dst t v fun t' => ih t' m' K
                | true => putK o.dst t .un fun t' => ih t' m K)
          | .raw (.tuple _) => putK o.dst t .un fun t' => ih t' m K
          | _ => False
        | none => False) l
theorem evOps_cons {P : Program} {ng : Nat} {ops : List Oper} {o : Oper} {os : List Oper} {t : List V} {m : List Blk} {K : List V → List Blk → Prop} : evOps P ng ops (o :: os) t m K =
    match o.guard with
    | none => evOp P ng o.op t m fun v m' => putK o.dst t v fun t' => evOps P ng ops os t' m' K
    | some (j, want) =>
      match dstOf ops j with
      | some d => match getT t d with
        | .bool c =>
          br c
            (setT t d (.bool true) fun t => match want with
              | true => evOp P ng o.op t m fun v m' => putK o.dst t v fun t' => evOps P ng ops os t' m' K
              | false => putK o.dst t .un fun t' => evOps P ng ops os t' m K)
            (setT t d (.bool false) fun t => match want with
              | false => evOp P ng o.op t m fun v m' => putK o.dst t v fun t' => evOps P ng ops os t' m' K
              | true => putK o.dst t .un fun t' => evOps P ng ops os t' m K)
        | .raw (.tuple _) => putK o.dst t .un fun t' => evOps P ng ops os t' m K
        | _ => False
      | none => False := rfl

/-- 'T' says no more of the slots than 't'. -/
noncomputable def wkL (T : List V) : List V → Prop :=
  List.rec (motive := fun _ => List V → Prop) (fun t => t = []) (fun v _ ih t => match t with
    | [] => False
    | u :: t => match v with
      | .any => ih t
      | v => u = v ∧ ih t) T
/-- What may be forgotten at a loop's head: slots, and blocks at the end of memory of which nobody knows any more. -/
structure Fg (n : Nat) (t : List V) (m : List Blk) (T : List V) (M : List Blk) : Prop where
  slots : wkL T t
  more : ∃ x, m = M ++ x
  len : n ≤ M.length
  sc : ∀ g x, Rvs m.length g T x → Rvs M.length g T x
  scm : ∀ (g : Nat → Pl) (x : Value) (i : Nat) (b : Blk) (j : Nat) (v : V), M[i]? = some b → b.b.get j = some v → Rv m.length g v x → Rv M.length g v x
/-- The least that a loop must come to. -/
structure loopVC (n : Nat) (c : Code) (body : List V → List Blk → (Exit → List V → List Blk → Prop) → Prop) (t : List V) (m : List Blk) (K : Exit → List V → List Blk → Prop) : Prop where
  out : ∀ J : List V → List Blk → Prop, (∀ t m, body t m (fun e t' m' => match e with | .normal => J t' m' | e => K e t' m') → J t m) → (∀ t' m' T M, Fg n t' m' T M → J T M → J t' m') → J t m

noncomputable def tmps0 (l : List V) : Nat → (List V → Prop) → Prop :=
  List.rec (motive := fun _ => Nat → (List V → Prop) → Prop) (fun n K => K (List.replicate n .un)) (fun v _ ih n K => ih (n - 1) fun l => K (v :: l)) l

end Go.Eng
/- The engine, part 3: small laws of the evaluator's words and of what an abstract state says of a world. No condition. -/
namespace Go.Eng
open Go

theorem fV_eq (v : V) (K : V → Prop) : fV v K = K v := by cases v <;> rfl
theorem fVs_eq (l : List V) : ∀ K : List V → Prop, fVs l K = K l := by
  induction l with
  | nil => intro K; rfl
  | cons v l ih => intro K; show fV v (fun v => fVs l fun vs => K (v :: vs)) = _; rw [fV_eq, ih]
theorem setT_eq (l : List V) : ∀ (n : Nat) (v : V) (K : List V → Prop), setT l n v K = K (l.set n v) := by
  induction l with
  | nil => intro n v K; rfl
  | cons a l ih =>
    intro n v K
    cases n with
    | zero => rfl
    | succ n => show setT l n v (fun l => K (a :: l)) = _; rw [ih]; rfl
theorem setB_eq (l : List Blk) : ∀ (n : Nat) (v : Blk) (K : List Blk → Prop), setB l n v K = K (l.set n v) := by
  induction l with
  | nil => intro n v K; rfl
  | cons a l ih =>
    intro n v K
    cases n with
    | zero => rfl
    | succ n => show setB l n v (fun l => K (a :: l)) = _; rw [ih]; rfl
theorem addB_eq (l : List Blk) : ∀ (b : Blk) (K : Nat → List Blk → Prop), addB l b K = K l.length (l ++ [b]) := by
  induction l with
  | nil => intro b K; rfl
  | cons a l ih => intro b K; show addB l b (fun n l => K (n + 1) (a :: l)) = _; rw [ih]; rfl
theorem getT_eq (l : List V) : ∀ n, getT l n = l.getD n V.un := by
  induction l with
  | nil => intro n; simp [getT]
  | cons a l ih => intro n; cases n <;> simp [getT, ih]
theorem getB_eq (l : List Blk) : ∀ n, getB l n = l.getD n ⟨false, .dead⟩ := by
  induction l with
  | nil => intro n; simp [getB]
  | cons a l ih => intro n; cases n <;> simp [getB, ih]
theorem lenL_eq (l : List V) : lenL l = l.length := by
  induction l with
  | nil => rfl
  | cons a l ih => simp [lenL, ih]
theorem ltL_eq (l : List V) : ∀ n, ltL n l = decide (n < l.length) := by
  induction l with
  | nil => intro n; simp [ltL]
  | cons a l ih => intro n; cases n <;> simp [ltL, ih]
theorem takeL_eq (l : List V) : ∀ n, takeL n l = l.take n := by
  induction l with
  | nil => intro n; cases n <;> simp [takeL]
  | cons a l ih => intro n; cases n <;> simp [takeL, ih]
theorem dropL_eq (l : List V) : ∀ n, dropL n l = l.drop n := by
  induction l with
  | nil => intro n; cases n <;> simp [dropL]
  | cons a l ih => intro n; cases n <;> simp [dropL, ih]
theorem appL_eq (l : List V) (l' : List V) : appL l l' = l ++ l' := by
  induction l with
  | nil => rfl
  | cons a l ih => simp [appL, ih]
theorem evArgs_eq (ng : Nat) (t : List V) (os : List Operand) : ∀ K : List V → Prop, evArgs ng t os K = K (os.map (evO ng t)) := by
  induction os with
  | nil => intro K; rfl
  | cons o os ih => intro K; show fV (evO ng t o) (fun v => evArgs ng t os fun vs => K (v :: vs)) = _; rw [fV_eq, ih]; rfl
theorem evParts_eq (ng : Nat) (t : List V) (ps : List (Nat × Operand)) : ∀ K : List (Nat × V) → Prop, evParts ng t ps K = K (ps.map fun p => (p.1, evO ng t p.2)) := by
  induction ps with
  | nil => intro K; rfl
  | cons o os ih => intro K; show fV (evO ng t o.2) (fun v => evParts ng t os fun l => K ((o.1, v) :: l)) = _; rw [fV_eq, ih]; rfl
theorem tmps0_eq (l : List V) : ∀ (n : Nat) (K : List V → Prop), tmps0 l n K = K (l ++ List.replicate (n - l.length) V.un) := by
  induction l with
  | nil => intro n K; rfl
  | cons a l ih =>
    intro n K
    show tmps0 l (n - 1) (fun l => K (a :: l)) = _
    rw [ih]
    simp only [List.length_cons, List.cons_append]
    congr 4; omega
theorem br_iff (c : Bool) (A B : Prop) : br c A B ↔ (c = true ∧ A) ∨ (c = false ∧ B) := by cases c <;> simp [br]
theorem br_F {c : Bool} {A : Prop} (h : br c A False) : c = true ∧ A := by cases c <;> simp_all [br]
theorem sameKind_eq {k k' : IntKind} (h : sameKind k k' = true) : k' = k := by cases k <;> cases k' <;> first | rfl | (simp [sameKind] at h)

/-! ### 'Rv' -/
section
variable {n n' : Nat} {g g' : Nat → Pl}
theorem Rvs_length : ∀ {vs : List V} {xs : List Value}, Rvs n g vs xs → xs.length = vs.length
  | [], xs, h => by simp [Rvs] at h; simp [h]
  | v :: vs, xs, h => by
    simp only [Rvs] at h
    obtain ⟨y, ys, rfl, _, h2⟩ := h
    simp [Rvs_length h2]
theorem Rvs_get : ∀ {vs : List V} {xs : List Value}, Rvs n g vs xs → ∀ {i : Nat} {v : V}, vs[i]? = some v → ∃ x, xs[i]? = some x ∧ Rv n g v x
  | [], xs, _, i, v, e => by simp at e
  | v :: vs, xs, h, i, u, e => by
    simp only [Rvs] at h
    obtain ⟨y, ys, rfl, h1, h2⟩ := h
    cases i with
    | zero => simp at e; subst e; exact ⟨y, by simp, h1⟩
    | succ i => simp at e; obtain ⟨x, hx, hr⟩ := Rvs_get h2 e; exact ⟨x, by simpa using hx, hr⟩
theorem Rvs_append : ∀ {vs us : List V} {xs ys : List Value}, Rvs n g vs xs → Rvs n g us ys → Rvs n g (vs ++ us) (xs ++ ys)
  | [], us, xs, ys, h, h' => by simp [Rvs] at h; subst h; simpa using h'
  | v :: vs, us, xs, ys, h, h' => by
    simp only [Rvs] at h
    obtain ⟨y, zs, rfl, h1, h2⟩ := h
    simp only [List.cons_append, Rvs]
    exact ⟨y, zs ++ ys, rfl, h1, Rvs_append h2 h'⟩
theorem Rvs_set : ∀ {vs : List V} {xs : List Value}, Rvs n g vs xs → ∀ (i : Nat) {v x}, Rv n g v x → Rvs n g (vs.set i v) (xs.set i x)
  | [], xs, h, i, v, x, _ => by simp [Rvs] at h; subst h; simp [Rvs]
  | u :: vs, xs, h, i, v, x, hr => by
    simp only [Rvs] at h
    obtain ⟨y, zs, rfl, h1, h2⟩ := h
    cases i with
    | zero => simp only [List.set_cons_zero, Rvs]; exact ⟨x, zs, rfl, hr, h2⟩
    | succ i => simp only [List.set_cons_succ, Rvs]; exact ⟨y, _, rfl, h1, Rvs_set h2 i hr⟩
theorem Rvs_take : ∀ {vs : List V} {xs : List Value}, Rvs n g vs xs → ∀ (i : Nat), Rvs n g (vs.take i) (xs.take i)
  | [], xs, h, i => by simp [Rvs] at h; subst h; simp [Rvs]
  | u :: vs, xs, h, i => by
    simp only [Rvs] at h
    obtain ⟨y, zs, rfl, h1, h2⟩ := h
    cases i with
    | zero => simp [Rvs]
    | succ i => simp only [List.take_succ_cons, Rvs]; exact ⟨y, _, rfl, h1, Rvs_take h2 i⟩
theorem Rvs_drop : ∀ {vs : List V} {xs : List Value}, Rvs n g vs xs → ∀ (i : Nat), Rvs n g (vs.drop i) (xs.drop i)
  | [], xs, h, i => by simp [Rvs] at h; subst h; simp [Rvs]
  | u :: vs, xs, h, i => by
    have h0 := h
    simp only [Rvs] at h
    obtain ⟨y, zs, rfl, h1, h2⟩ := h
    cases i with
    | zero => simpa using h0
    | succ i => simpa using Rvs_drop h2 i
theorem Rv_un : Rv n g V.un undef := by simp [Rv]
theorem Rvs_getD {vs : List V} {xs : List Value} (h : Rvs n g vs xs) (i : Nat) : Rv n g (vs.getD i V.un) (xs.getD i undef) := by
  rcases Nat.lt_or_ge i vs.length with hi | hi
  · obtain ⟨x, hx, hr⟩ := Rvs_get h (i := i) (v := vs[i]) (by simp [hi])
    rw [List.getD_eq_getElem?_getD, List.getD_eq_getElem?_getD, hx, List.getElem?_eq_getElem hi]
    exact hr
  · have hx := Rvs_length h
    rw [List.getD_eq_getElem?_getD, List.getD_eq_getElem?_getD, List.getElem?_eq_none hi, List.getElem?_eq_none (by omega)]
    exact Rv_un
theorem Rvs_replicate_un : ∀ k : Nat, Rvs n g (List.replicate k V.un) (List.replicate k undef)
  | 0 => by simp [Rvs]
  | k + 1 => by simp only [List.replicate_succ, Rvs]; exact ⟨_, _, rfl, Rv_un, Rvs_replicate_un k⟩
theorem Rvs_map {α : Type} (f : α → V) (h : α → Value) : ∀ (l : List α), (∀ a ∈ l, Rv n g (f a) (h a)) → Rvs n g (l.map f) (l.map h)
  | [], _ => by simp [Rvs]
  | a :: l, hh => by
    simp only [List.map_cons, Rvs]
    exact ⟨_, _, rfl, hh a (by simp), Rvs_map f h l (fun b hb => hh b (by simp [hb]))⟩

/-- A block stays, or a row that grows comes to a later version. -/
def Ag (p p' : Pl) : Prop := p' = p ∨ (0 < p.4 ∧ p.4 < p'.4)
theorem Ag.zero {p p' : Pl} (h : Ag p p') (h0 : p.4 = 0) : p' = p := by
  rcases h with h | ⟨h, _⟩
  · exact h
  · omega
theorem Ag.le {p p' : Pl} (h : Ag p p') : p.4 ≤ p'.4 := by
  rcases h with h | ⟨_, h⟩
  · rw [h]; exact Nat.le_refl _
  · omega
theorem Ag.same {p p' : Pl} (h : Ag p p') {v : Nat} (hv : v < p.4) (h' : v + 1 = p'.4) : v + 1 = p.4 ∧ p' = p := by
  rcases h with h | ⟨_, h⟩
  · rw [h] at h'; exact ⟨h', h⟩
  · omega
mutual
theorem Rv_monoA (hn : n ≤ n') (hg : ∀ i, i < n → Ag (g i) (g' i)) : ∀ (v : V) {x : Value}, Rv n g v x → Rv n' g' v x
  | .bool b, x, h => by simpa [Rv] using h
  | .int k a, x, h => by simpa [Rv] using h
  | .fl o, x, h => by simpa [Rv] using h
  | .raw v, x, h => by simpa [Rv] using h
  | .any, x, h => by simp [Rv]
  | .ptr i off, x, h => by
    simp only [Rv] at *
    have e := (hg i h.1).zero h.2.1
    exact ⟨by omega, by rw [e]; exact h.2⟩
  | .sl i off len, x, h => by
    simp only [Rv] at *
    have e := (hg i h.1).zero h.2.1
    exact ⟨by omega, by rw [e]; exact h.2⟩
  | .mp i, x, h => by
    simp only [Rv] at *
    have e := (hg i h.1).zero h.2.1
    exact ⟨by omega, by rw [e]; exact h.2⟩
  | .sk i off len cap, x, h => by
    simp only [Rv] at *
    have e := (hg i h.1).zero h.2.1
    exact ⟨by omega, by rw [e]; exact h.2⟩
  | .gp i v off, x, h => by
    simp only [Rv] at *
    obtain ⟨h1, h2, a, h3, h4⟩ := h
    refine ⟨by omega, Nat.lt_of_lt_of_le h2 (hg i h1).le, a, h3, fun e => ?_⟩
    obtain ⟨e1, e2⟩ := (hg i h1).same h2 e
    rw [e2]; exact h4 e1
  | .gs i v es len, x, h => by
    simp only [Rv] at *
    obtain ⟨h1, h2, a, c, h3, h5, h4⟩ := h
    refine ⟨by omega, Nat.lt_of_lt_of_le h2 (hg i h1).le, a, c, h3, h5, fun e => ?_⟩
    obtain ⟨e1, e2⟩ := (hg i h1).same h2 e
    rw [e2]; exact h4 e1
  | .agg cs, x, h => by
    simp only [Rv] at *
    obtain ⟨xs, h1, h2⟩ := h
    exact ⟨xs, h1, Rvs_monoA hn hg cs h2⟩
  | .tup cs, x, h => by
    simp only [Rv] at *
    obtain ⟨xs, h1, h2⟩ := h
    exact ⟨xs, h1, Rvs_monoA hn hg cs h2⟩
  | .clo fn a b, x, h => by
    simp only [Rv] at *
    obtain ⟨xs, ys, h1, h2, h3⟩ := h
    exact ⟨xs, ys, h1, Rvs_monoA hn hg a h2, Rvs_monoA hn hg b h3⟩
theorem Rvs_monoA (hn : n ≤ n') (hg : ∀ i, i < n → Ag (g i) (g' i)) : ∀ (vs : List V) {xs : List Value}, Rvs n g vs xs → Rvs n' g' vs xs
  | [], xs, h => by simpa [Rvs] using h
  | v :: vs, xs, h => by
    simp only [Rvs] at *
    obtain ⟨y, ys, h1, h2, h3⟩ := h
    exact ⟨y, ys, h1, Rv_monoA hn hg v h2, Rvs_monoA hn hg vs h3⟩
end
theorem Rv_mono (hn : n ≤ n') (hg : ∀ i, i < n → g' i = g i) (v : V) {x : Value} (h : Rv n g v x) : Rv n' g' v x := Rv_monoA hn (fun i hi => .inl (hg i hi)) v h
theorem Rvs_mono (hn : n ≤ n') (hg : ∀ i, i < n → g' i = g i) (vs : List V) {xs : List Value} (h : Rvs n g vs xs) : Rvs n' g' vs xs := Rvs_monoA hn (fun i hi => .inl (hg i hi)) vs h

theorem Rv_ofVal1 (v : Value) : Rv n g (ofVal1 v) v := by
  cases v <;> simp [ofVal1, Rv]
  case float k b => cases k <;> simp [Rv, fden]
theorem Rvs_ofVals : ∀ l : List Value, Rvs n g (ofVals l) l
  | [] => by simp [ofVals, Rvs]
  | v :: l => by simp only [ofVals, Rvs]; exact ⟨v, l, rfl, Rv_ofVal1 v, Rvs_ofVals l⟩
theorem Rv_ofVal (v : Value) : Rv n g (ofVal v) v := by
  cases v <;> simp only [ofVal]
  case agg cs => exact ⟨_, rfl, Rvs_ofVals _⟩
  all_goals exact Rv_ofVal1 _
end

/-! ### States -/
structure Sim (ng : Nat) (g : Nat → Pl) (t : List V) (m : List Blk) (a : Act) (w : World) : Prop where
  defers : a.defers = []
  tmps : Rvs m.length g t a.tmps.toList
  rep : Rep g m w
  glob : ng ≤ m.length ∧ ∀ i, i < ng → g i = ⟨i, 0, 0, 0⟩

theorem Step.ag {g g' : Nat → Pl} {m m' : List Blk} {w w' : World} (h : Step g m w g' m' w') (i : Nat) (hi : i < m.length) : Ag (g i) (g' i) := by
  rcases (h.agree i hi).2 with e | ⟨_, e⟩
  · exact .inl e
  · exact .inr e
/-- What is said where all blocks stay. -/
theorem agree_of {g g' : Nat → Pl} {m m' : List Blk} (h : ∀ i, i < m.length → g' i = g i ∧ (getB m' i).b.vof = (getB m i).b.vof) : ∀ i, i < m.length → (getB m i).b.vof ≤ (getB m' i).b.vof ∧ (g' i = g i ∨ ((getB m i).b.vof < (getB m' i).b.vof ∧ 0 < (g i).4 ∧ (g i).4 < (g' i).4)) :=
  fun i hi => ⟨Nat.le_of_eq (h i hi).2.symm, .inl (h i hi).1⟩
theorem Step.eq {g g' : Nat → Pl} {m : List Blk} {w w' : World} (h : Step g m w g' m w') (i : Nat) (hi : i < m.length) : g' i = g i := by
  rcases (h.agree i hi).2 with e | ⟨e, _⟩
  · exact e
  · omega
theorem Step.refl (g : Nat → Pl) (m : List Blk) (w : World) : Step g m w g m w :=
  ⟨Nat.le_refl _, agree_of fun _ _ => ⟨rfl, rfl⟩, rfl, rfl, rfl, Nat.le_refl _, fun _ _ _ => rfl, fun _ _ h => h⟩
theorem Step.trans {g g1 g2 : Nat → Pl} {m m1 m2 : List Blk} {w w1 w2 : World} (h : Step g m w g1 m1 w1) (h' : Step g1 m1 w1 g2 m2 w2) : Step g m w g2 m2 w2 :=
  ⟨Nat.le_trans h.len h'.len, fun i hi => by
      obtain ⟨a1, a2⟩ := h.agree i hi
      obtain ⟨b1, b2⟩ := h'.agree i (Nat.lt_of_lt_of_le hi h.len)
      refine ⟨Nat.le_trans a1 b1, ?_⟩
      rcases a2 with a2 | ⟨a2, a3, a4⟩
      · rw [← a2]
        rcases b2 with b2 | ⟨b2, b3⟩
        · exact .inl b2
        · exact .inr ⟨by omega, b3⟩
      · rcases b2 with b2 | ⟨b2, b3⟩
        · rw [b2]; exact .inr ⟨by omega, a3, a4⟩
        · exact .inr ⟨by omega, a3, by omega⟩, h'.os.trans h.os, h'.tape.trans h.tape, h'.output.trans h.output,
    Nat.le_trans h.size h'.size,
    fun p hp hf => by rw [h'.same p (Nat.lt_of_lt_of_le hp h.size) (fun hf' => hf (h.foot p hp hf')), h.same p hp hf],
    fun p hp hf => h.foot p hp (h'.foot p (Nat.lt_of_lt_of_le hp h.size) hf)⟩
/-- A draw. -/
theorem Step.drawn (g : Nat → Pl) (m : List Blk) (w : World) (k : Nat) : Step g m w g m { w with drawn := k } :=
  ⟨Nat.le_refl _, agree_of fun _ _ => ⟨rfl, rfl⟩, rfl, rfl, rfl, Nat.le_refl _, fun _ _ _ => rfl, fun _ _ h => h⟩
/-- What is said of a block hangs on its heap block alone. -/
theorem RepB.congr {n n' : Nat} {g g' : Nat → Pl} {w w' : World} {p : Pl} {b : Blk} (h : RepB n g w p b) (hh : w'.heap[p.1]? = w.heap[p.1]?) (hn : n ≤ n') (hg : ∀ i, i < n → Ag (g i) (g' i)) : RepB n' g' w' p b := by
  refine ⟨?_, fun j v hv => ?_, fun hw hl j => ?_, fun hl j hj => ?_, fun f hf => ?_, h.ver⟩
  · have h1 := h.size
    rcases Nat.lt_or_ge p.1 w'.heap.size with h2 | h2
    · exact h2
    · rw [Array.getElem?_eq_none h2, Array.getElem?_eq_getElem h1] at hh
      exact nomatch hh
  · obtain ⟨x, hx, hr⟩ := h.cell j v hv
    exact ⟨x, by unfold World.cell? at *; rw [hh]; exact hx, Rv_monoA hn hg v hr⟩
  · have := h.free hw hl j
    unfold World.frozen? at *; rw [hh]; exact this
  · obtain ⟨y, hy⟩ := h.room hl j hj
    exact ⟨y, by unfold World.cell? at *; rw [hh]; exact hy⟩
  · obtain ⟨es, ck, h1, h2⟩ := h.map f hf
    exact ⟨es, ck, by rw [hh]; exact h1, h2⟩
theorem Rep.heap {g : Nat → Pl} {m : List Blk} {w w' : World} (h : Rep g m w) (hh : w'.heap = w.heap) : Rep g m w' :=
  ⟨fun i b hb => (h.blk i b hb).congr (by rw [hh]) (Nat.le_refl _) fun _ _ => .inl rfl, h.apart⟩

theorem eval_Rv {ng : Nat} {g : Nat → Pl} {t : List V} {m : List Blk} {a : Act} {w : World} (S : Sim ng g t m a w) (o : Operand) : Rv m.length g (evO ng t o) (a.eval o) := by
  cases o with
  | tmp i =>
    simp only [evO, Act.eval, getT_eq]
    have := Rvs_getD S.tmps i
    rwa [show a.tmps.toList.getD i undef = a.tmps.getD i undef by simp] at this
  | const v => exact Rv_ofVal v
  | global i =>
    simp only [evO, Act.eval]
    split
    · rename_i h
      have h' : i < ng := by simpa using h
      simp only [Rv]
      rw [S.glob.2 i h']
      exact ⟨by have := S.glob.1; omega, rfl, rfl⟩
    · rfl
  | func f =>
    simp only [evO, Act.eval, Rv]
    exact ⟨#[], #[], rfl, by simp [Rvs], by simp [Rvs]⟩

end Go.Eng
/- The engine, part 4: memory: what is read, what is written, what is made. No condition. -/
namespace Go.Eng
open Go

theorem ints_get {k : IntKind} {l : List Int} {off : Nat} (h : off < l.length) : (B.ints k l).get off = some (.int k (l.getD off 0)) := by
  simp [B.get, h]
theorem flts_get {l : List Nat} {off : Nat} (h : off < l.length) : (B.flts l).get off = some (.fl (some (l.getD off 0))) := by
  simp [B.get, h]
theorem bools_get {l : List Bool} {off : Nat} (h : off < l.length) : (B.bools l).get off = some (.bool (l.getD off false)) := by
  simp [B.get, h]

theorem rd1_spec {b : B} {off : Nat} {K : V → Prop} (h : rd1 b off K) : ∃ v, b.get off = some v ∧ K v := by
  cases b with
  | dead => exact h.elim
  | cells cs =>
    obtain ⟨h1, h2⟩ := br_F h
    rw [ltL_eq] at h1
    rw [fV_eq, getT_eq] at h2
    have h1 : off < cs.length := by simpa using h1
    exact ⟨_, by simp [B.get, h1, List.getD_eq_getElem?_getD], h2⟩
  | ints k l =>
    obtain ⟨h1, h2⟩ := br_F h
    exact ⟨_, ints_get (by simpa using h1), h2⟩
  | flts l =>
    obtain ⟨h1, h2⟩ := br_F h
    exact ⟨_, flts_get (by simpa using h1), h2⟩
  | bools l =>
    obtain ⟨h1, h2⟩ := br_F h
    exact ⟨_, bools_get (by simpa using h1), h2⟩
  | gcells w cs =>
    obtain ⟨h1, h2⟩ := br_F h
    rw [ltL_eq] at h1
    rw [fV_eq, getT_eq] at h2
    have h1 : off < cs.length := by simpa using h1
    exact ⟨_, by simp [B.get, h1, List.getD_eq_getElem?_getD], h2⟩
  | gints w k l =>
    obtain ⟨h1, h2⟩ := br_F h
    exact ⟨_, ints_get (k := k) (by simpa using h1), h2⟩
  | gflts w l =>
    obtain ⟨h1, h2⟩ := br_F h
    exact ⟨_, flts_get (by simpa using h1), h2⟩
  | mpI f => exact h.elim

theorem rdN_spec {b : B} : ∀ (n : Nat) {off : Nat} {K : List V → Prop}, rdN b off n K →
    ∃ vs, vs.length = n ∧ (∀ (j : Nat) (v : V), vs[j]? = some v → b.get (off + j) = some v) ∧ K vs
  | 0, off, K, h => ⟨[], rfl, by simp, h⟩
  | n + 1, off, K, h => by
    obtain ⟨v, h1, h2⟩ := rd1_spec h
    obtain ⟨vs, h3, h4, h5⟩ := rdN_spec n h2
    refine ⟨v :: vs, by simp [h3], fun j u hu => ?_, h5⟩
    cases j with
    | zero => simp at hu; subst hu; exact h1
    | succ j => simp at hu; have := h4 j u hu; rwa [Nat.add_right_comm, Nat.add_assoc] at this

theorem one_of {n : Nat} {g : Nat → Pl} {v : V} {x : Value} (h : v.one = true) (hr : Rv n g v x) : x.oneCell' = true := by
  cases v with
  | raw v => simp only [Rv] at hr; subst hr; cases x <;> simp_all [V.one, Value.oneCell']
  | bool b => simp only [Rv] at hr; subst hr; rfl
  | int k b => simp only [Rv] at hr; subst hr; rfl
  | fl o => simp only [Rv] at hr; obtain ⟨_, _, rfl⟩ := hr; rfl
  | ptr i o => simp only [Rv] at hr; obtain ⟨_, _, rfl⟩ := hr; rfl
  | sl i o l => simp only [Rv] at hr; obtain ⟨_, _, _, _, rfl, _⟩ := hr; rfl
  | gp i v o => simp only [Rv] at hr; obtain ⟨_, _, _, rfl, _⟩ := hr; rfl
  | gs i v e l => simp only [Rv] at hr; obtain ⟨_, _, _, _, rfl, _⟩ := hr; rfl
  | mp i => simp only [Rv] at hr; obtain ⟨_, _, rfl⟩ := hr; rfl
  | sk i o l c => simp only [Rv] at hr; obtain ⟨_, _, _, rfl, _⟩ := hr; rfl
  | agg cs => simp [V.one] at h
  | any => simp [V.one] at h
  | tup cs => simp [V.one] at h
  | clo a b c => simp only [Rv] at hr; obtain ⟨_, _, rfl, _⟩ := hr; rfl

theorem wr1_spec {b : B} {off : Nat} {v : V} {K : B → Prop} (h : wr1 b off v K) :
    ∃ b', K b' ∧ (∃ u, b.get off = some u) ∧ v.one = true ∧ (∀ j, b'.get j = if j = off then some v else b.get j) ∧ b.row = true ∧ b'.row = true ∧ b'.vof = b.vof := by
  cases b with
  | dead => cases v <;> exact h.elim
  | cells cs =>
    have h : br (ltL off cs && v.one) (setT cs off v fun cs => K (.cells cs)) False := by cases v <;> exact h
    obtain ⟨h1, h2⟩ := br_F h
    rw [ltL_eq] at h1
    simp only [Bool.and_eq_true, decide_eq_true_eq] at h1
    rw [setT_eq] at h2
    refine ⟨_, h2, ⟨cs[off], by simp [B.get, h1.1]⟩, h1.2, fun j => ?_, rfl, rfl, rfl⟩
    simp only [B.get, List.getElem?_set]
    by_cases hj : off = j
    · subst hj; simp [h1.1]
    · simp [hj, Ne.symm hj]
  | gcells w cs =>
    have h : br (ltL off cs && v.one) (setT cs off v fun cs => K (.gcells w cs)) False := by cases v <;> exact h
    obtain ⟨h1, h2⟩ := br_F h
    rw [ltL_eq] at h1
    simp only [Bool.and_eq_true, decide_eq_true_eq] at h1
    rw [setT_eq] at h2
    refine ⟨_, h2, ⟨cs[off], by simp [B.get, h1.1]⟩, h1.2, fun j => ?_, rfl, rfl, rfl⟩
    simp only [B.get, List.getElem?_set]
    by_cases hj : off = j
    · subst hj; simp [h1.1]
    · simp [hj, Ne.symm hj]
  | gints w k l =>
    cases v with
    | int k' a =>
      obtain ⟨h1, h2⟩ := br_F h
      simp only [Bool.and_eq_true] at h1
      have hk := sameKind_eq h1.1
      replace h1 : off < l.length := by simpa using h1.2
      subst hk
      refine ⟨_, h2, ⟨_, ints_get (k := k') h1⟩, rfl, fun j => ?_, rfl, rfl, rfl⟩
      simp only [B.get, List.getElem?_set]
      by_cases hj : off = j
      · subst hj; simp [h1]
      · simp [hj, Ne.symm hj]
    | _ => exact h.elim
  | gflts w l =>
    cases v with
    | fl o =>
      cases o with
      | none => exact h.elim
      | some b =>
        obtain ⟨h1, h2⟩ := br_F h
        have h1 : off < l.length := by simpa using h1
        refine ⟨_, h2, ⟨_, flts_get h1⟩, rfl, fun j => ?_, rfl, rfl, rfl⟩
        simp only [B.get, List.getElem?_set]
        by_cases hj : off = j
        · subst hj; simp [h1]
        · simp [hj, Ne.symm hj]
    | _ => exact h.elim
  | mpI f => cases v <;> exact h.elim
  | ints k l =>
    cases v with
    | int k' a =>
      obtain ⟨h1, h2⟩ := br_F h
      simp only [Bool.and_eq_true] at h1
      have hk := sameKind_eq h1.1
      replace h1 : off < l.length := by simpa using h1.2
      subst hk
      refine ⟨_, h2, ⟨_, ints_get h1⟩, rfl, fun j => ?_, rfl, rfl, rfl⟩
      simp only [B.get, List.getElem?_set]
      by_cases hj : off = j
      · subst hj; simp [h1]
      · simp [hj, Ne.symm hj]
    | _ => exact h.elim
  | flts l =>
    cases v with
    | fl o =>
      cases o with
      | none => exact h.elim
      | some b =>
        obtain ⟨h1, h2⟩ := br_F h
        have h1 : off < l.length := by simpa using h1
        refine ⟨_, h2, ⟨_, flts_get h1⟩, rfl, fun j => ?_, rfl, rfl, rfl⟩
        simp only [B.get, List.getElem?_set]
        by_cases hj : off = j
        · subst hj; simp [h1]
        · simp [hj, Ne.symm hj]
    | _ => exact h.elim
  | bools l =>
    cases v with
    | bool b =>
      obtain ⟨h1, h2⟩ := br_F h
      have h1 : off < l.length := by simpa using h1
      refine ⟨_, h2, ⟨_, bools_get h1⟩, rfl, fun j => ?_, rfl, rfl, rfl⟩
      simp only [B.get, List.getElem?_set]
      by_cases hj : off = j
      · subst hj; simp [h1]
      · simp [hj, Ne.symm hj]
    | _ => exact h.elim

section
variable {P : Program}

/-- Cells read one by one. -/
theorem run_loadCellsFrom (w : World) (a : Addr) : ∀ (xs : List Value) (i : Nat) (acc : Array Value), (∀ (j : Nat) (x : Value), xs[j]? = some x → w.cell? (a.add (i + j)) = some x) →
    (loadCellsFrom a i xs.length acc).run P w = .ok (acc ++ xs.toArray) w
  | [], i, acc, _ => by simp [loadCellsFrom]
  | x :: xs, i, acc, h => by
    have h0 := h 0 x rfl
    simp only [List.length_cons, loadCellsFrom, Sem.run_bind, run_load]
    simp only [Nat.add_zero] at h0
    rw [h0]
    simp only [Result.andThen_ok]
    rw [run_loadCellsFrom w a xs (i + 1) (acc.push x) (fun j y hy => by have := h (j + 1) y (by simpa using hy); rwa [Nat.add_assoc, Nat.add_comm 1 j])]
    simp

theorem Addr_add (b off n : Nat) : (Addr.add ⟨b, off, none⟩ n) = ⟨b, off + n, none⟩ := by
  unfold Addr.add; split <;> simp_all

theorem run_underlying' {t : TypeId} {d : TypeDesc} (w : World) (h : P.underlying t = some d) : (underlying t).run P w = .ok d w := by
  simp [underlying, h]
theorem run_isAgg {t : TypeId} {d : TypeDesc} (w : World) (h : P.underlying t = some d) : (isAgg t).run P w = .ok (isAggD (some d)) w := by
  simp only [isAgg, Sem.run_bind, run_underlying' w h, Result.andThen_ok]
  cases d <;> rfl
theorem run_sizeOf {t : TypeId} {i : TypeInfo} (w : World) (h : P.info? t = some i) : (sizeOf t).run P w = .ok (P.cellsOf t) w := by
  simp [sizeOf, typeInfo, h, Program.cellsOf]
theorem info_of_underlying {t : TypeId} {d : TypeDesc} (h : P.underlying t = some d) : ∃ i, P.info? t = some i := by
  unfold Program.underlying at h
  cases hi : P.info? t with
  | none => simp [hi] at h
  | some i => exact ⟨i, rfl⟩
theorem run_sizeOf' {t : TypeId} {d : TypeDesc} (w : World) (h : P.underlying t = some d) : (sizeOf t).run P w = .ok (P.cellsOf t) w := by
  obtain ⟨i, hi⟩ := info_of_underlying h
  exact run_sizeOf w hi
theorem run_zeroValue {t : TypeId} {z : List V} (w : World) (h : zeroL P t = some z) : ∃ x, (zeroValue t).run P w = .ok x w ∧ ∀ n g, Rvs n g z x.cells.toList := by
  unfold zeroL at h
  cases hi : P.info? t with
  | none => simp [hi] at h
  | some i =>
    simp only [hi] at h
    cases hz : i.zero with
    | none => simp [hz] at h
    | some x =>
      simp only [hz, Option.some.injEq] at h
      subst h
      exact ⟨x, by simp [zeroValue, typeInfo, hi, hz], fun n g => Rvs_ofVals _⟩

theorem getB_some {m : List Blk} {i : Nat} (h : (getB m i).b.live = true ∨ (getB m i).w = true) : m[i]? = some (getB m i) := by
  rw [getB_eq] at *
  rcases Nat.lt_or_ge i m.length with hi | hi
  · simp [List.getD_eq_getElem?_getD, hi]
  · rw [List.getD_eq_getElem?_getD, List.getElem?_eq_none hi] at h
    simp [B.live] at h
theorem live_of_get {b : B} {j : Nat} {v : V} (h : b.get j = some v) : b.live = true := by
  cases b <;> first | rfl | (simp [B.get] at h)
theorem live_of_row {b : B} (h : b.row = true) : b.live = true := by
  cases b <;> first | rfl | exact h

/-- A load. -/
theorem loadV_sound {ng : Nat} {g : Nat → Pl} {t : List V} {m : List Blk} {a : Act} {w : World} (S : Sim ng g t m a w) {ty : TypeId} {p : V} {x : Value} {K : V → Prop}
    (hp : Rv m.length g p x) (h : loadV P ty p m K) : ∃ v y, (Instr.loadAt ty x).run P w = .ok y w ∧ Rv m.length g v y ∧ K v := by
  have key : ∀ (i off : Nat), x = .pointer (some ⟨(g i).1, (g i).2 + off, none⟩) → (match isAggD (P.underlying ty) with
      | true => rdN (getB m i).b off (P.cellsOf ty) fun cs => K (.agg cs)
      | false => match P.underlying ty with
        | some _ => rd1 (getB m i).b off K
        | none => False) → ∃ v y, (Instr.loadAt ty x).run P w = .ok y w ∧ Rv m.length g v y ∧ K v := by
    rintro i off rfl h
    cases hu : P.underlying ty with
    | none => simp [hu, isAggD] at h
    | some d =>
      simp only [hu] at h
      simp only [Instr.loadAt, Instr.sureAddr, loadVar, Sem.run_bind, Sem.run_pure, Result.andThen_ok, run_isAgg w hu]
      cases hag : isAggD (some d) with
      | true =>
        simp only [hag] at h
        obtain ⟨vs, h1, h2, h3⟩ := rdN_spec _ h
        simp only [if_true, Sem.run_bind, run_sizeOf' w hu, Result.andThen_ok]
        have hex : ∃ xs : List Value, xs.length = P.cellsOf ty ∧ (∀ (j : Nat) (y : Value), xs[j]? = some y → w.cell? ((Addr.mk (g i).1 ((g i).2 + off) none).add (0 + j)) = some y) ∧ Rvs m.length g vs xs := by
          have key : ∀ (us : List V) (k : Nat), (∀ (j : Nat) (v : V), us[j]? = some v → (getB m i).b.get (off + (k + j)) = some v) → ∃ xs : List Value, xs.length = us.length ∧ (∀ (j : Nat) (y : Value), xs[j]? = some y → w.cell? ((Addr.mk (g i).1 ((g i).2 + off) none).add (k + j)) = some y) ∧ Rvs m.length g us xs := by
            intro us
            induction us with
            | nil => intro k _; exact ⟨[], rfl, by simp, by simp [Rvs]⟩
            | cons u us ih =>
              intro k hk
              have h0 := hk 0 u rfl
              have hb := getB_some (.inl (live_of_get h0))
              obtain ⟨y, hy, hr⟩ := (S.rep.blk i _ hb).cell _ _ h0
              obtain ⟨ys, q1, q2, q3⟩ := ih (k + 1) (fun j v hv => by have := hk (j + 1) v (by simpa using hv); rwa [show k + 1 + j = k + (j + 1) by omega])
              refine ⟨y :: ys, by simp [q1], fun j z hz => ?_, by simp only [Rvs]; exact ⟨y, ys, rfl, hr, q3⟩⟩
              cases j with
              | zero => simp at hz; subst hz; rw [Addr_add, Nat.add_assoc]; exact hy
              | succ j => simp at hz; have := q2 j z hz; rwa [show k + 1 + j = k + (j + 1) by omega] at this
          obtain ⟨xs, q1, q2, q3⟩ := key vs 0 (fun j v hv => by have := h2 j v hv; simpa using this)
          exact ⟨xs, by rw [q1, h1], q2, q3⟩
        obtain ⟨xs, q1, q2, q3⟩ := hex
        refine ⟨.agg vs, .agg xs.toArray, ?_, ?_, h3⟩
        · have := run_loadCellsFrom (P := P) w ⟨(g i).1, (g i).2 + off, none⟩ xs 0 #[] q2
          simp only [loadCells, ← q1, this, Result.andThen_ok, Sem.run_pure]
          simp
        · simp only [Rv]; exact ⟨_, rfl, by simpa using q3⟩
      | false =>
        simp only [hag] at h
        obtain ⟨v, h1, h2⟩ := rd1_spec h
        have hb := getB_some (.inl (live_of_get h1))
        obtain ⟨y, hy, hr⟩ := (S.rep.blk i _ hb).cell _ _ h1
        refine ⟨v, y, ?_, hr, h2⟩
        have hy' : w.cell? ⟨(g i).1, (g i).2 + off, none⟩ = some y := hy
        simp [hy']
  unfold loadV at h
  cases p with
  | ptr i off =>
    simp only [Rv] at hp
    exact key i off hp.2.2 h
  | gp i v off =>
    simp only [Rv] at hp
    obtain ⟨hi, hv, a, hx, ha⟩ := hp
    obtain ⟨e, h⟩ := h
    have hb := getB_some (m := m) (i := i) (.inl (by
      cases hb : (getB m i).b <;> rw [hb] at e <;> first | rfl | (simp [B.vof] at e)))
    rw [ha (by rw [← e]; exact (S.rep.blk i _ hb).ver)] at hx
    exact key i off hx h
  | _ => exact h.elim

end
end Go.Eng
/- The engine, part 5: memory that is written, and memory that is made. No condition. -/
namespace Go.Eng
open Go

/-- 'w'' is 'w' but for the cells of block 'b'. -/
structure Wrote (b : Nat) (w w' : World) : Prop where
  os : w'.os = w.os
  tape : w'.tape = w.tape
  output : w'.output = w.output
  size : w'.heap.size = w.heap.size
  other : ∀ p, p ≠ b → w'.heap[p]? = w.heap[p]?
  frozen : ∀ a, w'.frozen? a = w.frozen? a

theorem Wrote.refl (b : Nat) (w : World) : Wrote b w w := ⟨rfl, rfl, rfl, rfl, fun _ _ => rfl, fun _ => rfl⟩
theorem Wrote.trans {b : Nat} {w w1 w2 : World} (h : Wrote b w w1) (h' : Wrote b w1 w2) : Wrote b w w2 :=
  ⟨h'.os.trans h.os, h'.tape.trans h.tape, h'.output.trans h.output, h'.size.trans h.size, fun p hp => (h'.other p hp).trans (h.other p hp), fun a => (h'.frozen a).trans (h.frozen a)⟩

theorem setCell_heap (w : World) (b o : Nat) (v : Value) (p : Nat) : (w.setCell ⟨b, o, none⟩ v).heap[p]? = if p = b then (w.heap[p]?).map (fun | .cells c e f => .cells (c.setIfInBounds o v) e f | x => x) else w.heap[p]? := by
  simp only [World.setCell, Array.getElem?_modify]
  by_cases h : b = p
  · subst h; cases w.heap[b]? with
    | none => simp
    | some x => cases x <;> simp
  · simp [h, Ne.symm h]
theorem setCell_wrote (w : World) (b o : Nat) (v : Value) : Wrote b w (w.setCell ⟨b, o, none⟩ v) := by
  refine ⟨rfl, rfl, rfl, by simp [World.setCell], fun p hp => by rw [setCell_heap, if_neg hp], fun a => ?_⟩
  unfold World.frozen?
  rw [setCell_heap]
  by_cases h : a.block = b
  · rw [if_pos h]
    cases hb : w.heap[a.block]? with
    | none => rfl
    | some x => cases x <;> rfl
  · rw [if_neg h]
theorem setCell_cell (w : World) (b o : Nat) (v : Value) (j : Nat) : (w.setCell ⟨b, o, none⟩ v).cell? ⟨b, j, none⟩ = if j = o then (w.cell? ⟨b, j, none⟩).map (fun _ => v) else w.cell? ⟨b, j, none⟩ := by
  unfold World.cell?
  rw [setCell_heap]
  simp only [if_true]
  cases hb : w.heap[b]? with
  | none => simp
  | some x =>
    cases x <;> simp
    rename_i c e f
    rw [Array.getElem?_setIfInBounds]
    by_cases h : j = o
    · subst h
      by_cases hj : j < c.size
      · simp [hj]
      · simp [hj]
    · simp [h, Ne.symm h]

section
variable {P : Program}
theorem run_storeCells (b off : Nat) : ∀ (xs : List Value) (i : Nat) (w : World), (∀ (j : Nat) (x : Value), xs[j]? = some x → x.oneCell' = true ∧ ∃ y, w.cell? ⟨b, off + (i + j), none⟩ = some y) →
    (∀ j, w.frozen? ⟨b, j, none⟩ = false) → ∃ w', (storeCells ⟨b, off, none⟩ xs i).run P w = .ok () w' ∧ Wrote b w w' ∧
      ∀ j, w'.cell? ⟨b, j, none⟩ = if off + i ≤ j ∧ j < off + i + xs.length then xs[j - (off + i)]? else w.cell? ⟨b, j, none⟩
  | [], i, w, _, _ => ⟨w, rfl, Wrote.refl _ _, fun j => by rw [if_neg (by simp only [List.length_nil]; omega)]⟩
  | x :: xs, i, w, h, hf => by
    obtain ⟨h1, y, hy⟩ := h 0 x rfl
    simp only [Nat.add_zero] at hy
    have hw1 := setCell_wrote w b (off + i) x
    obtain ⟨w', q1, q2, q3⟩ := run_storeCells b off xs (i + 1) (w.setCell ⟨b, off + i, none⟩ x) (fun j z hz => by
      obtain ⟨k1, u, hu⟩ := h (j + 1) z (by simpa using hz)
      refine ⟨k1, u, ?_⟩
      rw [setCell_cell, if_neg (by omega), ← hu]; congr 2; omega) (fun j => by rw [hw1.frozen]; exact hf j)
    refine ⟨w', ?_, hw1.trans q2, fun j => ?_⟩
    · simp only [storeCells, Sem.run_bind, run_store _ _ _ _ _ h1, Addr_add, hy, hf, Result.andThen_ok, Bool.false_eq_true, if_false]
      exact q1
    · rw [q3 j, setCell_cell]
      simp only [List.length_cons]
      by_cases c1 : j = off + i
      · subst c1
        rw [if_neg (by omega), if_pos rfl, if_pos (by omega), hy]
        simp
      · rw [if_neg c1]
        by_cases c2 : off + (i + 1) ≤ j ∧ j < off + (i + 1) + xs.length
        · rw [if_pos c2, if_pos (by omega)]
          rw [show j - (off + i) = (j - (off + (i + 1))) + 1 by omega]
          simp
        · rw [if_neg c2, if_neg (by omega)]

theorem wrN_spec : ∀ (vs : List V) {b : B} {off : Nat} {K : B → Prop}, wrN b off vs K →
    ∃ b', K b' ∧ (∀ j, j < vs.length → ∃ u, b.get (off + j) = some u) ∧ (∀ v ∈ vs, v.one = true) ∧
      (∀ j, b'.get j = if off ≤ j ∧ j < off + vs.length then vs[j - off]? else b.get j) ∧ (b.row = true → b'.row = true) ∧ b'.vof = b.vof
  | [], b, off, K, h => ⟨b, h, by simp, by simp, fun j => by rw [if_neg (by simp only [List.length_nil]; omega)], fun h => h, rfl⟩
  | v :: vs, b, off, K, h => by
    obtain ⟨b1, h1, h2, h3, h4, h5, h6, h7⟩ := wr1_spec h
    obtain ⟨b2, k1, k2, k3, k4, k5, k6⟩ := wrN_spec vs h1
    refine ⟨b2, k1, fun j hj => ?_, fun u hu => ?_, fun j => ?_, fun _ => k5 h6, k6.trans h7⟩
    · cases j with
      | zero => exact h2
      | succ j =>
        obtain ⟨u, hu⟩ := k2 j (by simpa using hj)
        rw [h4, if_neg (by omega)] at hu
        exact ⟨u, by rw [← hu]; congr 1; omega⟩
    · cases hu with
      | head => exact h3
      | tail _ hu => exact k3 u hu
    · rw [k4 j, h4 j]
      simp only [List.length_cons]
      by_cases c1 : j = off
      · subst c1
        rw [if_neg (by omega), if_pos rfl, if_pos (by omega)]
        simp
      · rw [if_neg c1]
        by_cases c2 : off + 1 ≤ j ∧ j < off + 1 + vs.length
        · rw [if_pos c2, if_pos (by omega), show j - off = (j - (off + 1)) + 1 by omega]
          simp
        · rw [if_neg c2, if_neg (by omega)]

theorem Rvs_cells {n : Nat} {g : Nat → Pl} {v : V} {x : Value} (hr : Rv n g v x) (h : allOne v.cellsL = true) : Rvs n g v.cellsL x.cells.toList := by
  have base : ∀ u : V, u.cellsL = [u] → allOne u.cellsL = true → Rv n g u x → Rvs n g [u] x.cells.toList := by
    intro u hu ho hr
    rw [hu] at ho
    simp only [allOne, Bool.and_true] at ho
    have := one_of ho hr
    have hx : x.cells = #[x] := by cases x <;> simp_all [Value.cells, Value.oneCell']
    rw [hx]
    simp only [Rvs]
    exact ⟨x, [], rfl, hr, rfl⟩
  cases v with
  | agg cs => simp only [Rv] at hr; obtain ⟨xs, rfl, h2⟩ := hr; exact h2
  | bool b => exact base _ rfl h hr
  | int k b => exact base _ rfl h hr
  | fl o => exact base _ rfl h hr
  | raw v => exact base _ rfl h hr
  | ptr i o => exact base _ rfl h hr
  | sl i o l => exact base _ rfl h hr
  | tup vs => exact base _ rfl h hr
  | clo a b c => exact base _ rfl h hr
  | gp i v o => exact base _ rfl h hr
  | gs i v e l => exact base _ rfl h hr
  | mp i => exact base _ rfl h hr
  | any => exact base _ rfl h hr
  | sk i o l c => exact base _ rfl h hr
theorem allOne_iff : ∀ l : List V, allOne l = true ↔ ∀ v ∈ l, v.one = true
  | [] => by simp [allOne]
  | v :: l => by simp [allOne, allOne_iff l]

/-- A row into which one has written, in its place. -/
theorem wrote_rep {ng : Nat} {g : Nat → Pl} {t : List V} {m : List Blk} {a : Act} {w w' : World} (S : Sim ng g t m a w) {i : Nat} {c : Blk} {b' : B} {ver : Nat} (hb : m[i]? = some c) (hw : c.w = true) (hl : c.b.row = true) (hr : b'.row = true)
    (q2 : Wrote (g i).1 w w') (hc : ∀ j u, b'.get j = some u → ∃ z, w'.cell? ⟨(g i).1, (g i).2 + j, none⟩ = some z ∧ Rv m.length g u z)
    (hroom : ∀ j, (∃ y, w.cell? ⟨(g i).1, j, none⟩ = some y) → ∃ y, w'.cell? ⟨(g i).1, j, none⟩ = some y)
    (hv : b'.vof = ver) (hver : ver = c.b.vof ∨ (0 < c.b.vof ∧ c.b.vof < ver)) :
    Rep (fun j => if j = i then ⟨(g i).1, (g i).2, (g i).3, ver⟩ else g j) (m.set i ⟨true, b'⟩) w' ∧ Step g m w (fun j => if j = i then ⟨(g i).1, (g i).2, (g i).3, ver⟩ else g j) (m.set i ⟨true, b'⟩) w' := by
  have hi : i < m.length := (List.getElem?_eq_some_iff.1 hb).1
  have R := S.rep.blk i _ hb
  have hbl := live_of_row hl
  have hag : ∀ j, j < m.length → Ag (g j) ((fun j => if j = i then (⟨(g i).1, (g i).2, (g i).3, ver⟩ : Pl) else g j) j) := by
    intro j hj
    by_cases e : j = i
    · subst e
      simp only [if_true]
      rcases hver with h | ⟨h1, h2⟩
      · refine .inl ?_
        rw [h, R.ver]
      · rw [R.ver] at h1 h2
        exact .inr ⟨h1, h2⟩
    · simp only [if_neg e]; exact .inl rfl
  have hget : ∀ j d, (m.set i ⟨true, b'⟩)[j]? = some d → (j = i ∧ d = ⟨true, b'⟩) ∨ (j ≠ i ∧ m[j]? = some d) := by
    intro j d hd
    rw [List.getElem?_set] at hd
    by_cases e : i = j
    · subst e
      simp only [hi, if_true, Option.some.injEq] at hd
      exact .inl ⟨rfl, hd.symm⟩
    · rw [if_neg e] at hd; exact .inr ⟨Ne.symm e, hd⟩
  have hpl : ∀ j, ((fun j => if j = i then (⟨(g i).1, (g i).2, (g i).3, ver⟩ : Pl) else g j) j).1 = (g j).1 := by
    intro j
    by_cases e : j = i
    · subst e; simp
    · simp [e]
  refine ⟨⟨fun j d hd => ?_, fun i' j' x y hne hx hy hxw hxl hyl => ?_⟩, ⟨by simp, fun j hj => ?_, q2.os, q2.tape, q2.output, by rw [q2.size]; exact Nat.le_refl _, fun p _ hp => q2.other p (fun e => hp ⟨i, _, hb, hw, e.symm⟩), fun p _ hp => ?_⟩⟩
  · rw [List.length_set]
    rcases hget j d hd with ⟨rfl, rfl⟩ | ⟨hne, hd⟩
    · simp only [if_true]
      refine ⟨by rw [q2.size]; exact R.size, fun k u hu => ?_, fun _ _ k => by rw [q2.frozen]; exact R.free hw hbl k, fun _ k hk => ?_, fun f hf => ?_, hv⟩
      · obtain ⟨z, h1, h2⟩ := hc k u hu
        exact ⟨z, h1, Rv_monoA (Nat.le_refl _) hag u h2⟩
      · exact hroom _ (R.room hbl k hk)
      · have hf : b' = .mpI f := hf
        rw [hf] at hr; exact nomatch hr
    · simp only [if_neg hne]
      have R' := S.rep.blk j d hd
      by_cases hdl : d.b.live = true
      · exact R'.congr (q2.other _ (S.rep.apart i j _ _ (Ne.symm hne) hb hd hw hbl hdl).symm) (Nat.le_refl _) hag
      · have hdead : d.b = .dead := by cases h : d.b <;> simp [h, B.live] at hdl; rfl
        refine ⟨by rw [q2.size]; exact R'.size, fun k u hu => ?_, fun _ hl' => absurd hl' hdl, fun hl' => absurd hl' hdl, fun f hf => ?_, R'.ver⟩
        · rw [hdead] at hu; exact nomatch hu
        · rw [hdead] at hf; exact nomatch hf
  · rw [hpl, hpl]
    rcases hget i' x hx with ⟨e1, e2⟩ | ⟨h1, hx1⟩
    · rcases hget j' y hy with ⟨e3, e4⟩ | ⟨h2, hy1⟩
      · exact absurd (e1.trans e3.symm) hne
      · rw [e1] at hne ⊢; exact S.rep.apart i j' _ _ hne hb hy1 hw hbl hyl
    · rcases hget j' y hy with ⟨e3, e4⟩ | ⟨h2, hy1⟩
      · rw [e3] at hne ⊢; exact S.rep.apart i' i _ _ hne hx1 hb hxw hxl hbl
      · exact S.rep.apart i' j' _ _ hne hx1 hy1 hxw hxl hyl
  · by_cases e : j = i
    · subst e
      rw [getB_eq, getB_eq]
      simp only [List.getD_eq_getElem?_getD, hb, Option.getD_some, List.getElem?_set, hi, if_true, hv]
      refine ⟨?_, ?_⟩
      · rcases hver with h | ⟨_, h⟩ <;> omega
      · rcases hver with h | ⟨h1, h2⟩
        · exact .inl (by rw [h, R.ver])
        · exact .inr ⟨h2, by rw [← R.ver]; exact h1, by rw [← R.ver]; exact h2⟩
    · rw [getB_eq, getB_eq]
      simp only [List.getD_eq_getElem?_getD, List.getElem?_set, if_neg (Ne.symm e), if_neg e]
      exact ⟨Nat.le_refl _, .inl trivial⟩
  · obtain ⟨j, c', hc', hcw, he⟩ := hp
    rw [hpl] at he
    rcases hget j c' hc' with ⟨rfl, rfl⟩ | ⟨h2, hc'⟩
    · exact ⟨j, _, hb, hw, he⟩
    · exact ⟨j, c', hc', hcw, he⟩
theorem place_same {g : Nat → Pl} {m : List Blk} {w : World} {i : Nat} {c : Blk} {b' : B} (R : RepB m.length g w (g i) c) (hv : b'.vof = c.b.vof) : (fun j => if j = i then (⟨(g i).1, (g i).2, (g i).3, b'.vof⟩ : Pl) else g j) = g := by
  funext j
  by_cases e : j = i
  · subst e
    simp only [if_true]
    rw [hv, R.ver]
  · simp only [if_neg e]

/-- A store into a block. -/
theorem storeV_sound {ng : Nat} {g : Nat → Pl} {t : List V} {m : List Blk} {a : Act} {w : World} (S : Sim ng g t m a w) {ty : TypeId} {p v : V} {x y : Value} {K : List Blk → Prop}
    (hp : Rv m.length g p x) (hv : Rv m.length g v y) (h : storeV P ty p v m K) :
    ∃ m' w', (Instr.storeAt ty x y).run P w = .ok () w' ∧ K m' ∧ Rep g m' w' ∧ Step g m w g m' w' := by
  have key : ∀ (i off : Nat), x = .pointer (some ⟨(g i).1, (g i).2 + off, none⟩) → (match (getB m i).w, (getB m i).b.row, Nat.beq (lenL v.cellsL) (P.cellsOf ty), P.info? ty with
    | true, true, true, some _ => wrN (getB m i).b off v.cellsL fun b => setB m i ⟨true, b⟩ K
    | _, _, _, _ => False) → ∃ m' w', (Instr.storeAt ty x y).run P w = .ok () w' ∧ K m' ∧ Rep g m' w' ∧ Step g m w g m' w' := by
    rintro i off rfl h
    split at h
    · rename_i inf hw hl hsz hinf
      obtain ⟨b', k1, k2, k3, k4, k5, k6⟩ := wrN_spec _ h
      rw [setB_eq] at k1
      have hb := getB_some (.inr hw)
      have R := S.rep.blk i _ hb
      have hcs := Rvs_cells hv ((allOne_iff _).2 k3)
      have hlen := Rvs_length hcs
      have hsz : lenL v.cellsL = P.cellsOf ty := by simpa using hsz
      rw [lenL_eq] at hsz
      obtain ⟨w', q1, q2, q3⟩ := run_storeCells (P := P) (g i).1 ((g i).2 + off) y.cells.toList 0 w (fun j z hz => by
        have hj : j < v.cellsL.length := by
          have := (List.getElem?_eq_some_iff.1 hz).1; omega
        obtain ⟨u, hu⟩ := k2 j hj
        obtain ⟨c, hc, _⟩ := R.cell _ _ hu
        refine ⟨?_, c, by rw [← hc]; congr 2; omega⟩
        obtain ⟨z', hz', hr'⟩ := Rvs_get hcs (i := j) (v := v.cellsL[j]) (by simp [hj])
        rw [hz] at hz'; cases hz'
        exact one_of (k3 _ (List.getElem_mem hj)) hr') (fun j => R.free hw (live_of_row hl) j)
      have W := wrote_rep (b' := b') (ver := b'.vof) S hb hw hl (k5 hl) q2 (fun j u hu => by
        simp only [k4] at hu
        rw [q3 ((g i).2 + j)]
        by_cases c1 : off ≤ j ∧ j < off + v.cellsL.length
        · rw [if_pos c1] at hu
          rw [if_pos (by omega)]
          obtain ⟨z, hz, hr⟩ := Rvs_get hcs hu
          exact ⟨z, by rw [← hz]; congr 1; omega, hr⟩
        · rw [if_neg c1] at hu
          rw [if_neg (by omega)]
          exact R.cell _ _ hu) (fun j ⟨z, hz⟩ => by
        rw [q3 j]
        by_cases c1 : (g i).2 + off + 0 ≤ j ∧ j < (g i).2 + off + 0 + y.cells.toList.length
        · rw [if_pos c1]
          exact ⟨_, List.getElem?_eq_getElem (by omega)⟩
        · rw [if_neg c1]; exact ⟨z, hz⟩) rfl (.inl k6)
      rw [place_same R k6] at W
      refine ⟨_, w', ?_, k1, W⟩
      simp only [Instr.storeAt, Instr.sureAddr, storeVar, Sem.run_bind, Sem.run_pure, Result.andThen_ok, run_sizeOf w hinf]
      rw [if_neg (by rw [← Array.length_toList]; omega)]
      simpa using q1
    · exact h.elim
  unfold storeV at h
  cases p with
  | ptr i off =>
    simp only [Rv] at hp
    exact key i off hp.2.2 h
  | gp i u off =>
    simp only [Rv] at hp
    obtain ⟨hi, hu, a, hx, ha⟩ := hp
    obtain ⟨e, h⟩ := h
    have hb := getB_some (m := m) (i := i) (.inl (by
      cases hb : (getB m i).b <;> rw [hb] at e <;> first | rfl | (simp [B.vof] at e)))
    rw [ha (by rw [← e]; exact (S.rep.blk i _ hb).ver)] at hx
    exact key i off hx h
  | _ => exact h.elim

/-- A new block. -/
def newAtP (g : Nat → Pl) (n : Nat) (p : Pl) : Nat → Pl := fun i => if i = n then p else g i
abbrev newAt (g : Nat → Pl) (n b : Nat) : Nat → Pl := newAtP g n ⟨b, 0, 0, 0⟩
theorem newAtP_old (g : Nat → Pl) (n : Nat) (p : Pl) : ∀ i, i < n → newAtP g n p i = g i := fun i hi => by unfold newAtP; rw [if_neg (by omega)]
theorem snoc_get {m : List Blk} {b : Blk} {i : Nat} {d : Blk} (hd : (m ++ [b])[i]? = some d) : (i < m.length ∧ m[i]? = some d) ∨ (i = m.length ∧ d = b) := by
  rcases Nat.lt_or_ge i m.length with hi | hi
  · rw [List.getElem?_append_left hi] at hd; exact .inl ⟨hi, hd⟩
  · rw [List.getElem?_append_right hi] at hd
    have : i - m.length = 0 := by
      have := (List.getElem?_eq_some_iff.1 hd).1; simp at this; omega
    rw [this] at hd; simp at hd
    exact .inr ⟨by omega, hd.symm⟩
theorem getB_snoc {m : List Blk} {b : Blk} {i : Nat} (hi : i < m.length) : getB (m ++ [b]) i = getB m i := by
  rw [getB_eq, getB_eq, List.getD_eq_getElem?_getD, List.getD_eq_getElem?_getD, List.getElem?_append_left hi]
theorem madeP {ng : Nat} {g : Nat → Pl} {t : List V} {m : List Blk} {a : Act} {w : World} (S : Sim ng g t m a w) (b : B) (o : Obj) (p : Pl) (hp : p.1 = w.heap.size)
    (R0 : RepB m.length g { w with heap := w.heap.push o } p ⟨true, b⟩) :
    Rep (newAtP g m.length p) (m ++ [⟨true, b⟩]) { w with heap := w.heap.push o } ∧ Step g m w (newAtP g m.length p) (m ++ [⟨true, b⟩]) { w with heap := w.heap.push o } := by
  have hag := newAtP_old g m.length p
  have hAg : ∀ i, i < m.length → Ag (g i) (newAtP g m.length p i) := fun i hi => .inl (hag i hi)
  have hlen : (m ++ [(⟨true, b⟩ : Blk)]).length = m.length + 1 := by simp
  have hnew : newAtP g m.length p m.length = p := by simp [newAtP]
  have hheap : ∀ q, q < w.heap.size → (w.heap.push o)[q]? = w.heap[q]? := fun q hq => by
    rw [Array.getElem?_push, if_neg (by omega)]
  refine ⟨⟨fun i d hd => ?_, fun i j x y hij hx hy hw hl hl' => ?_⟩, ⟨by simp, agree_of fun i hi => ⟨hag i hi, by rw [getB_snoc hi]⟩, rfl, rfl, rfl, by simp, fun q hq _ => hheap q hq, fun q hq hf => ?_⟩⟩
  · rcases snoc_get hd with ⟨hi, hd⟩ | ⟨rfl, rfl⟩
    · have R := S.rep.blk i d hd
      rw [hag i hi]
      exact R.congr (hheap _ R.size) (by omega) hAg
    · rw [hnew]
      exact R0.congr rfl (by omega) hAg
  · rcases snoc_get hx with ⟨hi, hx⟩ | ⟨rfl, rfl⟩
    · rcases snoc_get hy with ⟨hj, hy⟩ | ⟨rfl, rfl⟩
      · rw [hag i hi, hag j hj]; exact S.rep.apart i j x y hij hx hy hw hl hl'
      · rw [hag i hi, hnew]
        have := (S.rep.blk i x hx).size
        omega
    · rcases snoc_get hy with ⟨hj, hy⟩ | ⟨rfl, rfl⟩
      · rw [hag j hj, hnew]
        have := (S.rep.blk j y hy).size
        omega
      · exact absurd rfl hij
  · obtain ⟨i, d, hd, hw, he⟩ := hf
    rcases snoc_get hd with ⟨hi, hd⟩ | ⟨rfl, rfl⟩
    · rw [hag i hi] at he; exact ⟨i, d, hd, hw, he⟩
    · rw [hnew] at he; omega
/-- Neither a row that grows nor a map. -/
def B.plain : B → Bool
  | .gints .. | .gflts .. | .gcells .. | .mpI _ => false
  | _ => true
theorem made {ng : Nat} {g : Nat → Pl} {t : List V} {m : List Blk} {a : Act} {w : World} (S : Sim ng g t m a w) (b : B) (c : Array Value) (e : TypeId) (hpl : b.plain = true)
    (h : ∀ (j : Nat) (v : V), b.get j = some v → ∃ x, c[j]? = some x ∧ Rv m.length g v x) :
    Rep (newAt g m.length w.heap.size) (m ++ [⟨true, b⟩]) { w with heap := w.heap.push (.cells c e) } ∧
      Step g m w (newAt g m.length w.heap.size) (m ++ [⟨true, b⟩]) { w with heap := w.heap.push (.cells c e) } := by
  have hnew : (w.heap.push (Obj.cells c e))[w.heap.size]? = some (.cells c e) := by simp
  refine madeP S b _ _ rfl ⟨by simp, fun j v hv => ?_, fun _ _ j => ?_, fun _ j hj => absurd hj (Nat.not_lt_zero j), fun f hf => ?_, ?_⟩
  · obtain ⟨x, hx, hr⟩ := h j v hv
    refine ⟨x, ?_, hr⟩
    unfold World.cell?
    simp only [hnew, Nat.zero_add]
    simpa using hx
  · unfold World.frozen?
    simp only [hnew]
    simp
  · have hf : b = .mpI f := hf
    rw [hf] at hpl; exact nomatch hpl
  · cases b <;> first | rfl | exact nomatch hpl
theorem made_ptr (g : Nat → Pl) (m : List Blk) (b : Blk) (k : Nat) : Rv (m ++ [b]).length (newAt g m.length k) (.ptr m.length 0) (.pointer (some ⟨k, 0, none⟩)) := by
  simp [Rv, newAt, newAtP]
end
end Go.Eng
