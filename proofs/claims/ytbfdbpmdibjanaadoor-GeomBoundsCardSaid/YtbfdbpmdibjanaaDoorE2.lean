/- The engine, part 2: the evaluator. No condition: definitions alone. -/
import Derived.Test.YtbfdbpmdibjanaaDoorE1
namespace Go.Eng
open Go

/-! ### Operations on values -/
def bitV (op : BinOp) (k : IntKind) (a b : Int) : Int :=
  match op with
  | .and => k.wrap (BitVec.ofInt k.bits a &&& BitVec.ofInt k.bits b).toNat
  | .or => k.wrap (BitVec.ofInt k.bits a ||| BitVec.ofInt k.bits b).toNat
  | .xor => k.wrap (BitVec.ofInt k.bits a ^^^ BitVec.ofInt k.bits b).toNat
  | _ => k.wrap (BitVec.ofInt k.bits a &&& ~~~(BitVec.ofInt k.bits b)).toNat
noncomputable def evBin (op : BinOp) (x y : V) (K : V → Prop) : Prop :=
  match op, x, y with
  | .shl, .int k a, .int _ b => br (decide (0 ≤ b)) (K (.int k (k.wrap (a * 2 ^ min b.toNat k.bits)))) False
  | .shr, .int k a, .int _ b => br (decide (0 ≤ b)) (K (.int k (a.fdiv (2 ^ min b.toNat k.bits)))) False
  | .add, .int k a, .int k' b => br (sameKind k k') (K (.int k (k.wrap (a + b)))) False
  | .sub, .int k a, .int k' b => br (sameKind k k') (K (.int k (k.wrap (a - b)))) False
  | .mul, .int k a, .int k' b => br (sameKind k k') (K (.int k (k.wrap (a * b)))) False
  | .quo, .int k a, .int k' b => br (sameKind k k') (br (b != 0) (K (.int k (k.wrap (a.tdiv b)))) False) False
  | .rem, .int k a, .int k' b => br (sameKind k k') (br (b != 0) (K (.int k (a.tmod b))) False) False
  | .and, .int k a, .int k' b => br (sameKind k k') (K (.int k (bitV .and k a b))) False
  | .or, .int k a, .int k' b => br (sameKind k k') (K (.int k (bitV .or k a b))) False
  | .xor, .int k a, .int k' b => br (sameKind k k') (K (.int k (bitV .xor k a b))) False
  | .andNot, .int k a, .int k' b => br (sameKind k k') (K (.int k (bitV .andNot k a b))) False
  | .lss, .int k a, .int k' b => br (sameKind k k') (K (.bool (decide (a < b)))) False
  | .leq, .int k a, .int k' b => br (sameKind k k') (K (.bool (decide (a ≤ b)))) False
  | .gtr, .int k a, .int k' b => br (sameKind k k') (K (.bool (decide (a > b)))) False
  | .geq, .int k a, .int k' b => br (sameKind k k') (K (.bool (decide (a ≥ b)))) False
  | .eql, .int k a, .int k' b => br (sameKind k k') (K (.bool (a == b))) False
  | .neq, .int k a, .int k' b => br (sameKind k k') (K (.bool (a != b))) False
  | .add, .fl a, .fl b => K (.fl (fadd a b))
  | .sub, .fl a, .fl b => K (.fl (fsub a b))
  | .mul, .fl a, .fl b => K (.fl (fmul a b))
  | .quo, .fl a, .fl b => K (.fl (fdiv a b))
  | .eql, .fl a, .fl b => K (.bool (feq a b))
  | .neq, .fl a, .fl b => K (.bool (fne a b))
  | .lss, .fl a, .fl b => K (.bool (flt a b))
  | .leq, .fl a, .fl b => K (.bool (fle a b))
  | .gtr, .fl a, .fl b => K (.bool (fgt a b))
  | .geq, .fl a, .fl b => K (.bool (fge a b))
  | _, _, _ => False

def isPtrD : Option TypeDesc → Bool
  | some (.pointer _) => true
  | _ => false
def partO (P : Program) (t : TypeId) (cs : List V) (off : Nat) : Option V :=
  match isAggD (P.underlying t) with
  | true => match Nat.ble (off + P.cellsOf t) (lenL cs) with
    | true => some (.agg (takeL (P.cellsOf t) (dropL off cs)))
    | false => none
  | false => match ltL off cs with
    | true => some (getT cs off)
    | false => none
def eqArr (P : Program) (f : V → V → Option Bool) (e : TypeId) (cs ds : List V) : Nat → Nat → Option Bool
  | 0, _ => some true
  | n + 1, i => match partO P e cs (i * P.cellsOf e), partO P e ds (i * P.cellsOf e) with
    | some a, some b => match f a b, eqArr P f e cs ds n (i + 1) with
      | some p, some q => some (p && q)
      | _, _ => none
    | _, _ => none
def eqFs (P : Program) (f : TypeId → V → V → Option Bool) (cs ds : List V) : List Field → Option Bool
  | [] => some true
  | d :: fs => match d.name != "_", partO P d.type cs d.offset, partO P d.type ds d.offset with
    | true, some a, some b => match f d.type a b, eqFs P f cs ds fs with
      | some p, some q => some (p && q)
      | _, _ => none
    | _, _, _ => none
/-- Equality of whole numbers, truths, floats, and of arrays and structs of them. -/
def eqT (P : Program) : Nat → TypeId → V → V → Option Bool
  | 0, _, _, _ => none
  | n + 1, t, x, y => match P.underlying t, x, y with
    | some (.int _), .int k a, .int k' b => match sameKind k k' with
      | true => some (a == b)
      | false => none
    | some .bool, .bool a, .bool b => some (a == b)
    | some (.float .f64), .fl a, .fl b => some (feq a b)
    | some (.array len e), .agg cs, .agg ds => match P.underlying e with
      | some _ => eqArr P (eqT P n e) e cs ds len 0
      | none => none
    | some (.struct fs), .agg cs, .agg ds => match P.stoodInHeld t with
      | true => none
      | false => eqFs P (eqT P n) cs ds fs.toList
    | _, _, _ => none
def isStructD : Option TypeDesc → Bool
  | some (.struct _) => true
  | _ => false
noncomputable def evEq (P : Program) (t : TypeId) (x y : V) (K : Bool → Prop) : Prop :=
  match x, y with
  | .agg cs, .agg ds => match isStructD (P.underlying t) with
    | true => ∃ b, (P.eqGuardType P.depth t = false ∧ eqT P 6 t (.agg cs) (.agg ds) = some b) ∧ K b
    | false => match P.eqGuardType P.depth t, eqT P 6 t (.agg cs) (.agg ds) with
      | false, some b => K b
      | _, _ => False
  | .ptr _ _, .raw (.pointer none) => match isPtrD (P.underlying t) with | true => K false | false => False
  | .raw (.pointer none), .ptr _ _ => match isPtrD (P.underlying t) with | true => K false | false => False
  | .raw (.pointer none), .raw (.pointer none) => match isPtrD (P.underlying t) with | true => K true | false => False
  | _, _ => False
noncomputable def evBinary (P : Program) (op : BinOp) (t : TypeId) (x y : V) (K : V → Prop) : Prop :=
  match op, x, y with
  | .eql, .bool a, .bool b => match P.underlying t with | some .bool => K (.bool (a == b)) | _ => False
  | .neq, .bool a, .bool b => match P.underlying t with | some .bool => K (.bool (!(a == b))) | _ => False
  | .eql, .agg cs, y => evEq P t (.agg cs) y fun b => K (.bool b)
  | .neq, .agg cs, y => evEq P t (.agg cs) y fun b => K (.bool (!b))
  | .eql, .ptr i o, y => evEq P t (.ptr i o) y fun b => K (.bool b)
  | .neq, .ptr i o, y => evEq P t (.ptr i o) y fun b => K (.bool (!b))
  | .eql, .raw v, y => evEq P t (.raw v) y fun b => K (.bool b)
  | .neq, .raw v, y => evEq P t (.raw v) y fun b => K (.bool (!b))
  | op, x, y => evBin op x y K
def evUn (op : UnOp) (x : V) (K : V → Prop) : Prop :=
  match op, x with
  | .not, .bool b => K (.bool (!b))
  | .neg, .int k n => K (.int k (k.wrap (0 - n)))
  | .xor, .int k n => K (.int k (bitV .xor k (match k.signed with | true => -1 | false => k.max) n))
  | .neg, .fl o => K (.fl (fneg o))
  | _, _ => False
def fToI (o : Option Nat) (k : IntKind) : Option Int :=
  match o with
  | some b => floatToIntVal .f64 b k
  | none => none
def evConv (P : Program) (s d : TypeId) (x : V) (K : V → Prop) : Prop :=
  match P.underlying s, P.underlying d, x with
  | some _, some (.int k), .int _ n => K (.int k (k.wrap n))
  | some _, some (.float .f64), .int _ n => K (.fl (some (FloatKind.nearest .f64 n)))
  | some _, some (.int k), .fl o => ∃ n, fToI o k = some n ∧ K (.int k n)
  | some _, some (.float .f64), .fl o => K (.fl o)
  | _, _, _ => False

/-! ### Memory -/
inductive Zero where
  | int (k : IntKind) | fl | bool | no
def zkind : List V → Zero
  | [.int k _] => .int k
  | .int k _ :: l => match zkind l with
    | .int k' => match sameKind k k' with | true => .int k | false => .no
    | _ => .no
  | [.fl _] => .fl
  | .fl _ :: l => match zkind l with | .fl => .fl | _ => .no
  | [.bool _] => .bool
  | _ => .no
def allZero : List V → Bool
  | [] => true
  | .int _ (.ofNat 0) :: l => allZero l
  | .fl (some 0) :: l => allZero l
  | .bool false :: l => allZero l
  | _ => false
/-- A row of n zeros. -/
noncomputable def zrow (P : Program) (e : TypeId) (n : Nat) (K : B → Prop) : Prop :=
  match zeroL P e with
  | some z => match allZero z, zkind z with
    | true, .int k => K (.ints k (List.replicate (n * P.cellsOf e) 0))
    | true, .fl => K (.flts (List.replicate (n * P.cellsOf e) 0))
    | true, .bool => K (.bools (List.replicate (n * P.cellsOf e) false))
    | _, _ => False
  | none => False
def sliceD : Option TypeDesc → Option TypeId
  | some (.slice e) => some e
  | _ => none
def arrayD : Option TypeDesc → Option (Nat × TypeId)
  | some (.array n e) => some (n, e)
  | _ => none
noncomputable def loadV (P : Program) (t : TypeId) (a : V) (m : List Blk) (K : V → Prop) : Prop :=
  match a with
  | .ptr i off => match isAggD (P.underlying t) with
    | true => rdN (getB m i).b off (P.cellsOf t) fun cs => K (.agg cs)
    | false => match P.underlying t with
      | some _ => rd1 (getB m i).b off K
      | none => False
  | .gp i v off => (getB m i).b.vof = v + 1 ∧ match isAggD (P.underlying t) with
    | true => rdN (getB m i).b off (P.cellsOf t) fun cs => K (.agg cs)
    | false => match P.underlying t with
      | some _ => rd1 (getB m i).b off K
      | none => False
  | _ => False
noncomputable def storeV (P : Program) (t : TypeId) (a v : V) (m : List Blk) (K : List Blk → Prop) : Prop :=
  match a with
  | .ptr i off => match (getB m i).w, (getB m i).b.row, Nat.beq (lenL v.cellsL) (P.cellsOf t), P.info? t with
    | true, true, true, some _ => wrN (getB m i).b off v.cellsL fun b => setB m i ⟨true, b⟩ K
    | _, _, _, _ => False
  | .gp i u off => (getB m i).b.vof = u + 1 ∧ match (getB m i).w, (getB m i).b.row, Nat.beq (lenL v.cellsL) (P.cellsOf t), P.info? t with
    | true, true, true, some _ => wrN (getB m i).b off v.cellsL fun b => setB m i ⟨true, b⟩ K
    | _, _, _, _ => False
  | _ => False
def boundV (ng : Nat) (t : List V) (lo : Nat) (hi : Nat) (o : Option Operand) (dflt : Nat) (K : Nat → Prop) : Prop :=
  match o with
  | none => K dflt
  | some o => match evO ng t o with
    | .int _ i => br (decide ((lo : Int) ≤ i ∧ i ≤ (hi : Int))) (K i.toNat) False
    | _ => False
def lenV (P : Program) (t : TypeId) (x : V) (K : V → Prop) : Prop :=
  match P.underlying t, x with
  | some (.slice _), .sl _ _ n => K (.int .i64 n)
  | some (.slice _), .gs _ _ _ n => K (.int .i64 n)
  | some (.slice _), .sk _ _ n _ => K (.int .i64 n)
  | some (.slice _), .raw (.slice none 0 0) => K (.int .i64 0)
  | some (.array n _), _ => K (.int .i64 n)
  | _, _ => False
/-! ### Rows that grow, and maps -/
/-- So many cells of a row, from a cell on. -/
noncomputable def segB (b : B) (off n : Nat) (K : B → Prop) : Prop :=
  match b with
  | .ints k l => br (Nat.ble (off + n) l.length) (K (.ints k ((l.drop off).take n))) False
  | .flts l => br (Nat.ble (off + n) l.length) (K (.flts ((l.drop off).take n))) False
  | .gints _ k l => br (Nat.ble (off + n) l.length) (K (.ints k ((l.drop off).take n))) False
  | .gflts _ l => br (Nat.ble (off + n) l.length) (K (.flts ((l.drop off).take n))) False
  | b => rdN b off n fun cs => br (allOne cs) (K (.cells cs)) False
/-- The cells of a slice that is read. -/
noncomputable def srcV (es : Nat) (x : V) (m : List Blk) (K : Nat → B → Prop) : Prop :=
  match x with
  | .sl j off n => segB (getB m j).b off (n * es) fun b => K n b
  | .sk j off n _ => segB (getB m j).b off (n * es) fun b => K n b
  | .gs j v _ n => (getB m j).b.vof = v + 1 ∧ segB (getB m j).b 0 (n * es) fun b => K n b
  | .raw (.slice none 0 0) => K 0 (.cells [])
  | _ => False
def intsL (k : IntKind) : List V → Option (List Int)
  | [] => some []
  | .int k' n :: l => match sameKind k k', intsL k l with
    | true, some r => some (n :: r)
    | _, _ => none
  | _ :: _ => none
def fltsL : List V → Option (List Nat)
  | [] => some []
  | .fl (some b) :: l => match fltsL l with
    | some r => some (b :: r)
    | none => none
  | _ :: _ => none
/-- A new row that grows, of these cells. -/
def growNew (z : Zero) (b : B) (K : B → Prop) : Prop :=
  match z, b with
  | .int k, .ints k' l => match sameKind k k' with | true => K (.gints 0 k l) | false => False
  | .int k, .cells cs => match intsL k cs with | some l => K (.gints 0 k l) | none => False
  | .fl, .flts l => K (.gflts 0 l)
  | .fl, .cells cs => match fltsL cs with | some l => K (.gflts 0 l) | none => False
  | .no, .cells cs => K (.gcells 0 cs)
  | .bool, .cells cs => K (.gcells 0 cs)
  | _, _ => False
/-- A row that grows, grown by these cells. -/
def growB (b : B) (c : B) (K : B → Prop) : Prop :=
  match b, c with
  | .gints v k l, .ints k' r => match sameKind k k' with | true => K (.gints (v + 1) k (l ++ r)) | false => False
  | .gints v k l, .cells cs => match intsL k cs with | some r => K (.gints (v + 1) k (l ++ r)) | none => False
  | .gflts v l, .flts r => K (.gflts (v + 1) (l ++ r))
  | .gflts v l, .cells cs => match fltsL cs with | some r => K (.gflts (v + 1) (l ++ r)) | none => False
  | .gcells v l, .cells cs => K (.gcells (v + 1) (l ++ cs))
  | _, _ => False
/-- Cells put over those of a row, from a cell on. -/
def pasteB (b : B) (off : Nat) (c : B) (K : B → Prop) : Prop :=
  match b, c with
  | .ints k l, .ints k' r => br (sameKind k k' && Nat.ble (off + r.length) l.length) (K (.ints k (l.take off ++ r ++ l.drop (off + r.length)))) False
  | .ints k l, .cells cs => match intsL k cs with | some r => br (Nat.ble (off + r.length) l.length) (K (.ints k (l.take off ++ r ++ l.drop (off + r.length)))) False | none => False
  | .flts l, .flts r => br (Nat.ble (off + r.length) l.length) (K (.flts (l.take off ++ r ++ l.drop (off + r.length)))) False
  | .flts l, .cells cs => match fltsL cs with | some r => br (Nat.ble (off + r.length) l.length) (K (.flts (l.take off ++ r ++ l.drop (off + r.length)))) False | none => False
  | .cells l, .cells r => br (Nat.ble (off + r.length) l.length) (K (.cells (l.take off ++ r ++ l.drop (off + r.length)))) False
  | _, _ => False
def B.cnt : B → Nat
  | .gcells _ cs => cs.length
  | .gints _ _ l => l.length
  | .gflts _ l => l.length
  | _ => 0
/-- Joined rows. -/
def catB (b c : B) (K : B → Prop) : Prop :=
  match b, c with
  | .ints k l, .ints k' r => match sameKind k k' with | true => K (.ints k (l ++ r)) | false => False
  | .ints k l, .cells cs => match intsL k cs with | some r => K (.ints k (l ++ r)) | none => False
  | .flts l, .flts r => K (.flts (l ++ r))
  | .flts l, .cells cs => match fltsL cs with | some r => K (.flts (l ++ r)) | none => False
  | .cells l, .cells r => K (.cells (l ++ r))
  | .cells [], .ints k r => K (.ints k r)
  | .cells [], .flts r => K (.flts r)
  | _, _ => False
noncomputable def appendV (P : Program) (ty : TypeId) (s x : V) (m : List Blk) (K : V → List Blk → Prop) : Prop :=
  match sliceD (P.underlying ty) with
  | some e => match zeroL P e with
    | some z => br (Nat.beq (lenL z) (P.cellsOf e) && Nat.blt 0 (P.cellsOf e) && Nat.blt 0 (P.bytesOf e)) (srcV (P.cellsOf e) x m fun n c => match s with
        | .raw (.slice none 0 0) => (0 < n ∧ n * P.bytesOf e ≤ 140737488355328) ∧ growNew (zkind z) c fun b => addB m ⟨true, b⟩ fun i m => K (.gs i 0 (P.cellsOf e) n) m
        | .gs i v es len => ((getB m i).b.vof = v + 1 ∧ es = P.cellsOf e ∧ (getB m i).b.cnt = len * P.cellsOf e ∧ (len + n) * P.bytesOf e ≤ 140737488355328) ∧ match (getB m i).w with
          | true => growB (getB m i).b c fun b => setB m i ⟨true, b⟩ fun m => K (.gs i (v + 1) (P.cellsOf e) (len + n)) m
          | false => False
        | .sk i off len cap => (len + n) * P.bytesOf e ≤ 140737488355328 ∧ br (Nat.ble (len + n) cap)
          (match (getB m i).w with
            | true => pasteB (getB m i).b (off + len * P.cellsOf e) c fun b => setB m i ⟨true, b⟩ fun m => K (.sk i off (len + n) cap) m
            | false => False)
          (segB (getB m i).b off (len * P.cellsOf e) fun d => catB d c fun c => growNew (zkind z) c fun b => addB m ⟨true, b⟩ fun j m => K (.gs j 0 (P.cellsOf e) (len + n)) m)
        | _ => False) False
    | none => False
  | none => False
noncomputable def copyV (P : Program) (ty : TypeId) (d x : V) (m : List Blk) (K : V → List Blk → Prop) : Prop :=
  match sliceD (P.underlying ty), d with
  | some e, .sl i off n => br (Nat.blt 0 (P.cellsOf e)) (match x with
    | .sl j off' n' => segB (getB m j).b off' (min n' n * P.cellsOf e) fun c => match (getB m i).w with
      | true => pasteB (getB m i).b off c fun b => setB m i ⟨true, b⟩ fun m => K (.int .i64 (min n' n : Nat)) m
      | false => False
    | _ => False) False
  | _, _ => False
def zero64 : Option TypeInfo → Bool
  | some i => match i.zero with
    | some (.int .i64 (.ofNat 0)) => true
    | _ => false
  | none => false
/-- Is it a map from pairs of ints to ints? -/
def pairMap (P : Program) (t : TypeId) : Option TypeId :=
  match P.underlying t with
  | some (.map kt vt) => match P.underlying kt, P.stoodInHeld kt, zero64 (P.info? vt) with
    | some (.struct fs), false, true => match fs.toList with
      | [a, b] => match a.name != "_", b.name != "_", a.offset, b.offset, P.underlying a.type, P.underlying b.type, P.cellsOf a.type, P.cellsOf b.type with
        | true, true, 0, 1, some (.int _), some (.int _), 1, 1 => some kt
        | _, _, _, _, _, _, _, _ => none
      | _ => none
    | _, _, _ => none
  | _ => none
def updM (f : Int → Int → Option Int) (a b z : Int) : Int → Int → Option Int := fun x y => if x = a ∧ y = b then some z else f x y
def lookV (r : Option Int) (ok : Bool) (K : V → Prop) : Prop :=
  match ok with
  | true => match r with | some z => K (.tup [.int .i64 z, .bool true]) | none => K (.tup [.int .i64 0, .bool false])
  | false => match r with | some z => K (.int .i64 z) | none => K (.int .i64 0)
noncomputable def lookupV (P : Program) (ty : TypeId) (x k : V) (ok : Bool) (m : List Blk) (K : V → Prop) : Prop :=
  match x, k with
  | .mp i, .agg [.int .i64 a, .int .i64 b] => (∃ kt, pairMap P ty = some kt) ∧ match (getB m i).b with
    | .mpI f => lookV (f a b) ok K
    | _ => False
  | _, _ => False
noncomputable def mapUpdV (P : Program) (ty : TypeId) (x k v : V) (m : List Blk) (K : List Blk → Prop) : Prop :=
  match x, k, v with
  | .mp i, .agg [.int .i64 a, .int .i64 b], .int .i64 z => (∃ kt, pairMap P ty = some kt) ∧ match (getB m i).w, (getB m i).b with
    | true, .mpI f => setB m i ⟨true, .mpI (updM f a b z)⟩ K
    | _, _ => False
  | _, _, _ => False
def slcV (mx : Option Operand) (i off len cap : Nat) : V :=
  match mx with
  | none => .sl i off len
  | some _ => .sk i off len cap
def mkSl (same : Bool) (i len cap : Nat) : V :=
  match same with
  | true => .sl i 0 len
  | false => .sk i 0 len cap
def sameO : Operand → Operand → Bool
  | .tmp a, .tmp b => Nat.beq a b
  | .const (.int _ (.ofNat a)), .const (.int _ (.ofNat b)) => Nat.beq a b
  | _, _ => false
noncomputable def maxV (gt : Bool) (l : List V) : V → (V → Prop) → Prop :=
  List.rec (motive := fun _ => V → (V → Prop) → Prop) (fun x K => K x)
    (fun y _ ih x K => match y, x with
      | .int k' b, .int k a => br (sameKind k k') (match gt with
        | true => ih (.int k (if b > a then b else a)) K
        | false => ih (.int k (if b < a then b else a)) K) False
      | _, _ => False) l
noncomputable def mmV (gt : Bool) : List V → (V → Prop) → Prop
  | .int k a :: l, K => maxV gt l (.int k a) K
  | _, _ => False

/-! ### Calls -/
/-- What a call of function 'f' comes to, be it a body or one of the model's own. -/
def COk (P : Program) (ng : Nat) (f : FuncId) (args : List V) (m : List Blk) (r : V) (m' : List Blk) : Prop :=
  ∀ g w xs, (ng ≤ m.length ∧ ∀ i, i < ng → g i = ⟨i, 0, 0, 0⟩) → Rep g m w → Rvs m.length g args xs →
    match (callFunc f xs.toArray).run P w with
    | .ok (.enter f' ys) w1 => Calls P f' ys w1 fun e w' => ∃ g' x, e = .returned x ∧ Rv m'.length g' r x ∧ Rep g' m' w' ∧ Step g m w g' m' w'
    | .ok (.value x) w' => ∃ g', Rv m'.length g' r x ∧ Rep g' m' w' ∧ Step g m w g' m' w'
    | _ => False
noncomputable def callVC (P : Program) (ng : Nat) (f : FuncId) (args : List V) (m : List Blk) (K : V → List Blk → Prop) : Prop :=
  ∃ r m', COk P ng f args m r m' ∧ fV r fun r => K r m'
def appL : List V → List V → List V
  | [], l => l
  | a :: l, l' => a :: appL l l'

noncomputable def evOp (P : Program) (ng : Nat) (op : Op) (t : List V) (m : List Blk) (K : V → List Blk → Prop) : Prop :=
  match op with
  | .move x => fV (evO ng t x) fun v => K v m
  | .assign x => fV (evO ng t x) fun v => K v m
  | .pick c a b => match evO ng t c with
    | .bool true => fV (evO ng t a) fun v => K v m
    | .bool false => fV (evO ng t b) fun v => K v m
    | _ => False
  | .alloc e => match zeroL P e with
    | some z => br (allOne z) (addB m ⟨true, .cells z⟩ fun n m => K (.ptr n 0) m) False
    | none => False
  | .box _ x => fV (evO ng t x) fun v => br (allOne v.cellsL) (addB m ⟨true, .cells v.cellsL⟩ fun n m => K (.ptr n 0) m) False
  | .build ty ps => match P.info? ty, P.underlying ty with
    | some it, some (.array _ e) => match it.zero, P.info? e with
      | some z, some ie => evParts ng t ps.toList fun ps => fillV (fun i => some (i * ie.size, ie.size)) (ofVals z.cells.toList) ps fun cs => K (.agg cs) m
      | _, _ => False
    | some it, some (.struct fs) => match it.zero, fs.toList.mapM (fun f => (P.info? f.type).map fun i => (f.offset, i.size)) with
      | some z, some places => evParts ng t ps.toList fun ps => fillV (fun i => places.toArray[i]?) (ofVals z.cells.toList) ps fun cs => K (.agg cs) m
      | _, _ => False
    | _, _ => False
  | .buildSlice ty n ps => match sliceD (P.underlying ty) with
    | some e => match zeroL P e, Nat.blt 0 (n * P.cellsOf e), Nat.ble (n * P.cellsOf e) (2 ^ 24) with
      | some z, true, true => br (Nat.blt 0 (lenL z)) (evParts ng t ps.toList fun ps =>
          fillV (fun i => some (i * P.cellsOf e, P.cellsOf e)) ((List.range (n * P.cellsOf e)).map fun j => getT z (j % lenL z)) ps fun cs =>
            br (allOne cs) (addB m ⟨true, .cells cs⟩ fun i m => K (.sl i 0 n) m) False) False
      | _, _, _ => False
    | none => False
  | .load ty a => loadV P ty (evO ng t a) m fun v => K v m
  | .store ty a x => fV (evO ng t x) fun v => storeV P ty (evO ng t a) v m fun m => K .un m
  | .nilCheck x => match evO ng t x with
    | .ptr i o => K (.ptr i o) m
    | .gp i v o => K (.gp i v o) m
    | .clo (.func f) a b => K (.clo (.func f) a b) m
    | _ => False
  | .binOp op xt x y _ => evBinary P op xt (evO ng t x) (evO ng t y) fun v => K v m
  | .unOp op _ x => evUn op (evO ng t x) fun v => K v m
  | .convert s d x => evConv P s d (evO ng t x) fun v => K v m
  | .makeFunc fn a b => evArgs ng t a.toList fun a => evArgs ng t b.toList fun b => K (.clo fn a b) m
  | .makeSlice ty lo co => match sliceD (P.underlying ty), evO ng t lo, evO ng t co with
    | some e, .int _ l, .int _ c => br (decide (0 ≤ l ∧ l ≤ c ∧ c ≤ 2 ^ 48 ∧ (P.bytesOf e : Int) * c ≤ 2 ^ 48))
        (br (Nat.blt 0 (P.cellsOf e)) (zrow P e c.toNat fun b => addB m ⟨true, b⟩ fun i m => K (mkSl (sameO lo co) i l.toNat c.toNat) m) False) False
    | _, _, _ => False
  | .slice _ _ _ none (some _) => False
  | .slice ty x lo hi mx => match P.underlying ty, evO ng t x with
    | some (.array n e), .ptr i off => br (Nat.blt 0 (P.cellsOf e)) (boundV ng t 0 n mx n fun c => boundV ng t 0 c hi n fun h => boundV ng t 0 h lo 0 fun l => K (.sl i (off + l * P.cellsOf e) (h - l)) m) False
    | some (.slice e), .sl i off n => br (Nat.blt 0 (P.cellsOf e)) (boundV ng t 0 n mx n fun c => boundV ng t 0 c hi n fun h => boundV ng t 0 h lo 0 fun l => K (slcV mx i (off + l * P.cellsOf e) (h - l) (c - l)) m) False
    | some (.slice e), .sk i off n cap => br (Nat.blt 0 (P.cellsOf e)) (boundV ng t 0 cap mx cap fun c => boundV ng t 0 c hi n fun h => boundV ng t 0 h lo 0 fun l => K (.sk i (off + l * P.cellsOf e) (h - l) (c - l)) m) False
    | _, _ => False
  | .fieldAddr s x i => match evO ng t x, fieldOf (P.underlying s) i with
    | .ptr j off, some f => match P.cellsOf f.type with
      | 0 => False
      | _ + 1 => K (.ptr j (off + f.offset)) m
    | .gp j v off, some f => match P.cellsOf f.type with
      | 0 => False
      | _ + 1 => K (.gp j v (off + f.offset)) m
    | _, _ => False
  | .field ty x i => match evO ng t x, fieldOf (P.underlying ty) i with
    | .agg cs, some f => partV P f.type cs f.offset fun v => K v m
    | _, _ => False
  | .indexAddr ty x ix => match P.underlying ty, evO ng t x, evO ng t ix with
    | some (.array n e), .ptr j off, .int _ i => br (Nat.blt 0 (P.cellsOf e)) (br (decide (0 ≤ i ∧ i < (n : Int))) (K (.ptr j (off + i.toNat * P.cellsOf e)) m) False) False
    | some (.slice e), .sl j off n, .int _ i => br (Nat.blt 0 (P.cellsOf e)) (br (decide (0 ≤ i ∧ i < (n : Int))) (K (.ptr j (off + i.toNat * P.cellsOf e)) m) False) False
    | some (.slice e), .gs j v _ n, .int _ i => br (Nat.blt 0 (P.cellsOf e)) (br (decide (0 ≤ i ∧ i < (n : Int))) (K (.gp j v (i.toNat * P.cellsOf e)) m) False) False
    | some (.slice e), .sk j off n _, .int _ i => br (Nat.blt 0 (P.cellsOf e)) (br (decide (0 ≤ i ∧ i < (n : Int))) (K (.ptr j (off + i.toNat * P.cellsOf e)) m) False) False
    | some (.array n e), .gp j v off, .int _ i => br (Nat.blt 0 (P.cellsOf e)) (br (decide (0 ≤ i ∧ i < (n : Int))) (K (.gp j v (off + i.toNat * P.cellsOf e)) m) False) False
    | _, _, _ => False
  | .index ty x ix => match P.underlying ty, evO ng t x, evO ng t ix with
    | some (.array n e), .agg cs, .int _ i => br (Nat.blt 0 (P.cellsOf e)) (br (decide (0 ≤ i ∧ i < (n : Int))) (partV P e cs (i.toNat * P.cellsOf e) fun v => K v m) False) False
    | some .string, .raw (.string s), .int _ i => match (if 0 ≤ i then s[i.toNat]? else none) with
      | some b => K (.int .u8 b.toNat) m
      | none => False
    | _, _, _ => False
  | .makeMap ty none => match P.underlying ty with
    | some (.map _ _) => addB m ⟨true, .mpI fun _ _ => none⟩ fun i m => K (.mp i) m
    | _ => False
  | .makeMap ty (some o) => match P.underlying ty, evO ng t o with
    | some (.map _ _), .int _ _ => addB m ⟨true, .mpI fun _ _ => none⟩ fun i m => K (.mp i) m
    | _, _ => False
  | .lookup ty x k ok => lookupV P ty (evO ng t x) (evO ng t k) ok m fun v => K v m
  | .mapUpdate ty x k v => mapUpdV P ty (evO ng t x) (evO ng t k) (evO ng t v) m fun m => K .un m
  | .extract x i => match evO ng t x with
    | .tup vs => br (ltL i vs) (fV (getT vs i) fun v => K v m) False
    | _ => False
  | .call c => match c.callee with
    | .value f => match evO ng t f with
      | .clo (.func f) a b => evArgs ng t c.args.toList fun vs => callVC P ng f (appL a (appL vs b)) m K
      | _ => False
    | .builtin .len => match c.args.toList, c.argTypes.toList with
      | [x], [ty] => lenV P ty (evO ng t x) fun v => K v m
      | _, _ => False
    | .builtin .append => match c.args.toList, c.argTypes.toList with
      | [s, x], [ty, tx] => match sliceD (P.underlying tx) with
        | some _ => appendV P ty (evO ng t s) (evO ng t x) m K
        | none => False
      | _, _ => False
    | .builtin .copy => match c.args.toList, c.argTypes.toList with
      | [d, x], ty :: _ => copyV P ty (evO ng t d) (evO ng t x) m K
      | _, _ => False
    | .builtin .max => evArgs ng t c.args.toList fun vs => mmV true vs fun v => K v m
    | .builtin .min => evArgs ng t c.args.toList fun vs => mmV false vs fun v => K v m
    | _ => False
  | _ => False

/-! ### Code -/
def dstOf : List Oper → Nat → Option Tmp
  | [], _ => none
  | o :: _, 0 => o.dst
  | _ :: os, n + 1 => dstOf os n
noncomputable def putK (d : Option Tmp) (t : List V) (v : V) (K : List V → Prop) : Prop :=
  match d with
  | some d => setT t d v K
  | none => K t
noncomputable def evOps (P : Program) (ng : Nat) (ops : List Oper) (l : List Oper) : List V → List Blk → (List V → List Blk → Prop) → Prop :=
  List.rec (motive := fun _ => List V → List Blk → (List V → List Blk → Prop) → Prop) (fun t m K => K t m)
    (fun o _ ih t m K => match o.guard with
      | none => evOp P ng o.op t m fun v m' => putK o.dst t v fun t' => ih t' m' K
      | some (j, want) =>
        match dstOf ops j with
        | some d => match getT t d with
          | .bool c =>
            br c
              (setT t d (.bool true) fun t => match want with
                | true => evOp P ng o.op t m fun v m' => putK o.dst t v fun t' => ih t' m' K
                | false => putK o.dst t .un fun t' => ih t' m K)
              (setT t d (.bool false) fun t => match want with
                | false => evOp P ng o.op t m fun v m' => putK o.dst t v fun t' => ih t' m' K
                | true => putK o.dst t .un fun t' => ih t' m K)
          | .raw (.tuple _) => putK o.dst t .un fun t' => ih t' m K
          | _ => False
        | none => False) l
theorem evOps_cons {P : Program} {ng : Nat} {ops : List Oper} {o : Oper} {os : List Oper} {t : List V} {m : List Blk} {K : List V → List Blk → Prop} : evOps P ng ops (o :: os) t m K =
    match o.guard with
    | none => evOp P ng o.op t m fun v m' => putK o.dst t v fun t' => evOps P ng ops os t' m' K
    | some (j, want) =>
      match dstOf ops j with
      | some d => match getT t d with
        | .bool c =>
          br c
            (setT t d (.bool true) fun t => match want with
              | true => evOp P ng o.op t m fun v m' => putK o.dst t v fun t' => evOps P ng ops os t' m' K
              | false => putK o.dst t .un fun t' => evOps P ng ops os t' m K)
            (setT t d (.bool false) fun t => match want with
              | false => evOp P ng o.op t m fun v m' => putK o.dst t v fun t' => evOps P ng ops os t' m' K
              | true => putK o.dst t .un fun t' => evOps P ng ops os t' m K)
        | .raw (.tuple _) => putK o.dst t .un fun t' => evOps P ng ops os t' m K
        | _ => False
      | none => False := rfl

/-- 'T' says no more of the slots than 't'. -/
noncomputable def wkL (T : List V) : List V → Prop :=
  List.rec (motive := fun _ => List V → Prop) (fun t => t = []) (fun v _ ih t => match t with
    | [] => False
    | u :: t => match v with
      | .any => ih t
      | v => u = v ∧ ih t) T
/-- What may be forgotten at a loop's head: slots, and blocks at the end of memory of which nobody knows any more. -/
structure Fg (n : Nat) (t : List V) (m : List Blk) (T : List V) (M : List Blk) : Prop where
  slots : wkL T t
  more : ∃ x, m = M ++ x
  len : n ≤ M.length
  sc : ∀ g x, Rvs m.length g T x → Rvs M.length g T x
  scm : ∀ (g : Nat → Pl) (x : Value) (i : Nat) (b : Blk) (j : Nat) (v : V), M[i]? = some b → b.b.get j = some v → Rv m.length g v x → Rv M.length g v x
/-- The least that a loop must come to. -/
structure loopVC (n : Nat) (c : Code) (body : List V → List Blk → (Exit → List V → List Blk → Prop) → Prop) (t : List V) (m : List Blk) (K : Exit → List V → List Blk → Prop) : Prop where
  out : ∀ J : List V → List Blk → Prop, (∀ t m, body t m (fun e t' m' => match e with | .normal => J t' m' | e => K e t' m') → J t m) → (∀ t' m' T M, Fg n t' m' T M → J T M → J t' m') → J t m

noncomputable def tmps0 (l : List V) : Nat → (List V → Prop) → Prop :=
  List.rec (motive := fun _ => Nat → (List V → Prop) → Prop) (fun n K => K (List.replicate n .un)) (fun v _ ih n K => ih (n - 1) fun l => K (v :: l)) l

end Go.Eng
