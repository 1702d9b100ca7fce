/- The engine, part 13: an operation has one result ('Lin'); operations that touch no memory. No condition. -/
import Derived.Test.YtbfdbpmdibjanaaDoorE11
namespace Go.Eng
open Go

/-- 'F' goes on at one place alone. -/
structure Lin {α : Type} (F : (α → Prop) → Prop) : Prop where
  mono : ∀ K K', (∀ a, K a → K' a) → F K → F K'
  det : ∀ K, F K → ∃ a, K a ∧ F (fun b => b = a)
section
variable {α β : Type}
theorem lin_ret (v : α) : Lin (fun K : α → Prop => K v) := ⟨fun _ _ h k => h _ k, fun _ h => ⟨v, h, rfl⟩⟩
theorem lin_false : Lin (fun _ : α → Prop => False) := ⟨fun _ _ _ h => h, fun _ h => h.elim⟩
theorem lin_br {c : Bool} {F : (α → Prop) → Prop} (h : Lin F) : Lin (fun K => br c (F K) False) := by
  cases c
  · exact lin_false
  · exact h
theorem lin_br2 {c : Bool} {F G : (α → Prop) → Prop} (h : Lin F) (h' : Lin G) : Lin (fun K => br c (F K) (G K)) := by
  cases c
  · exact h'
  · exact h
theorem lin_and {p : Prop} {F : (α → Prop) → Prop} (h : Lin F) : Lin (fun K => p ∧ F K) :=
  ⟨fun _ _ hk ⟨h1, h2⟩ => ⟨h1, h.mono _ _ hk h2⟩, fun K ⟨h1, h2⟩ => by
    obtain ⟨a, h3, h4⟩ := h.det _ h2
    exact ⟨a, h3, h1, h4⟩⟩
theorem lin_map {F : (α → Prop) → Prop} (f : α → β) (h : Lin F) : Lin (fun K : β → Prop => F (fun a => K (f a))) :=
  ⟨fun K K' hk hf => h.mono _ _ (fun a => hk _) hf, fun K hf => by
    obtain ⟨a, h1, h2⟩ := h.det _ hf
    exact ⟨f a, h1, h.mono _ _ (fun b hb => by rw [hb]) h2⟩⟩
theorem lin_bind {F : (α → Prop) → Prop} {G : α → (β → Prop) → Prop} (h : Lin F) (hg : ∀ a, Lin (G a)) : Lin (fun K : β → Prop => F (fun a => G a K)) :=
  ⟨fun K K' hk hf => h.mono _ _ (fun a => (hg a).mono _ _ hk) hf, fun K hf => by
    obtain ⟨a, h1, h2⟩ := h.det _ hf
    obtain ⟨b, h3, h4⟩ := (hg a).det _ h1
    exact ⟨b, h3, h.mono _ _ (fun c hc => by rw [hc]; exact h4) h2⟩⟩
theorem lin_ex {γ : Type} {Q : γ → Prop} {G : γ → (β → Prop) → Prop} (hg : ∀ a, Lin (G a)) : Lin (fun K : β → Prop => ∃ a, Q a ∧ G a K) :=
  ⟨fun K K' hk ⟨a, h1, h2⟩ => ⟨a, h1, (hg a).mono _ _ hk h2⟩, fun K ⟨a, h1, h2⟩ => by
    obtain ⟨b, h3, h4⟩ := (hg a).det _ h2
    exact ⟨b, h3, a, h1, h4⟩⟩
/-- A case at a time. -/
theorem lin_of_eq {F F' : (α → Prop) → Prop} (e : F = F') (h : Lin F') : Lin F := by rw [e]; exact h

theorem lin_fV (v : V) : Lin (fV v) := by rw [show fV v = fun K => K v from funext (fV_eq v)]; exact lin_ret v
theorem lin_fVs (v : List V) : Lin (fVs v) := by rw [show fVs v = fun K => K v from funext (fVs_eq v)]; exact lin_ret v
theorem lin_evArgs (ng : Nat) (t : List V) (os : List Operand) : Lin (evArgs ng t os) := by rw [show evArgs ng t os = _ from funext (evArgs_eq ng t os)]; exact lin_ret _
theorem lin_evParts (ng : Nat) (t : List V) (os : List (Nat × Operand)) : Lin (evParts ng t os) := by rw [show evParts ng t os = _ from funext (evParts_eq ng t os)]; exact lin_ret _
theorem lin_rd1 (b : B) (off : Nat) : Lin (rd1 b off) := by
  cases b with
  | dead => exact lin_false
  | cells cs => exact lin_br (lin_fV _)
  | ints k l => exact lin_br (lin_ret _)
  | flts l => exact lin_br (lin_ret _)
  | bools l => exact lin_br (lin_ret _)
  | gcells v cs => exact lin_br (lin_fV _)
  | gints v k l => exact lin_br (lin_ret _)
  | gflts v l => exact lin_br (lin_ret _)
  | mpI f => exact lin_false
theorem lin_rdN (b : B) : ∀ n off, Lin (rdN b off n)
  | 0, _ => lin_ret _
  | n + 1, off => by
    show Lin (fun K => rd1 b off fun v => rdN b (off + 1) n fun vs => K (v :: vs))
    exact lin_bind (lin_rd1 b off) fun _ => lin_map _ (lin_rdN b n (off + 1))
theorem lin_wr1 (b : B) (off : Nat) (v : V) : Lin (wr1 b off v) := by
  have hset : ∀ cs : List V, Lin (fun K => setT cs off v fun cs => K (B.cells cs)) := fun cs => by
    rw [show (fun K : B → Prop => setT cs off v fun cs => K (B.cells cs)) = fun K => K (B.cells (cs.set off v)) from funext fun K => setT_eq _ _ _ _]
    exact lin_ret _
  cases b with
  | dead => cases v <;> exact lin_false
  | cells cs => cases v <;> exact lin_br (hset cs)
  | ints k l => cases v <;> first | exact lin_br (lin_ret _) | exact lin_false
  | flts l =>
    cases v with
    | fl o => cases o with
      | none => exact lin_false
      | some b => exact lin_br (lin_ret _)
    | _ => exact lin_false
  | bools l => cases v <;> first | exact lin_br (lin_ret _) | exact lin_false
  | gcells w cs =>
    have hset : Lin (fun K => setT cs off v fun cs => K (B.gcells w cs)) := by
      rw [show (fun K : B → Prop => setT cs off v fun cs => K (B.gcells w cs)) = fun K => K (B.gcells w (cs.set off v)) from funext fun K => setT_eq _ _ _ _]
      exact lin_ret _
    cases v <;> exact lin_br hset
  | gints w k l => cases v <;> first | exact lin_br (lin_ret _) | exact lin_false
  | gflts w l =>
    cases v with
    | fl o => cases o with
      | none => exact lin_false
      | some b => exact lin_br (lin_ret _)
    | _ => exact lin_false
  | mpI f => cases v <;> exact lin_false
theorem lin_wrN : ∀ (vs : List V) (b : B) (off : Nat), Lin (wrN b off vs)
  | [], _, _ => lin_ret _
  | v :: vs, b, off => by
    show Lin (fun K => wr1 b off v fun b => wrN b (off + 1) vs K)
    exact lin_bind (lin_wr1 b off v) fun b => lin_wrN vs b (off + 1)
theorem lin_partV (P : Program) (t : TypeId) (cs : List V) (off : Nat) : Lin (partV P t cs off) := by
  unfold partV
  cases isAggD (P.underlying t) with
  | true => exact lin_br (lin_map _ (lin_fVs _))
  | false =>
    cases P.underlying t with
    | none => exact lin_false
    | some _ => exact lin_br (lin_fV _)
theorem lin_fillV (place : Nat → Option (Nat × Nat)) : ∀ (ps : List (Nat × V)) (z : List V), Lin (fillV place z ps)
  | [], _ => lin_ret _
  | (i, v) :: ps, z => by
    show Lin (fun K => match place i with
      | some (off, sz) => br (Nat.beq (lenL v.cellsL) sz && Nat.ble (off + lenL v.cellsL) (lenL z) && allOne v.cellsL) (fVs (pasteL z off v.cellsL) fun z => fillV place z ps K) False
      | none => False)
    cases place i with
    | none => exact lin_false
    | some p => exact lin_br (lin_bind (lin_fVs _) fun z => lin_fillV place ps z)
theorem lin_evBin (op : BinOp) (x y : V) : Lin (evBin op x y) := by
  cases x with
  | int k a =>
    cases y with
    | int k' b => cases op <;> first | exact lin_false | exact lin_br (lin_ret _) | exact lin_br (lin_br (lin_ret _))
    | _ => cases op <;> exact lin_false
  | fl a =>
    cases y with
    | fl b => cases op <;> first | exact lin_false | exact lin_ret _
    | _ => cases op <;> exact lin_false
  | _ => cases op <;> exact lin_false
theorem lin_evEq (P : Program) (t : TypeId) (x y : V) : Lin (evEq P t x y) := by
  unfold evEq
  split
  · split
    · exact lin_ex (fun b => lin_ret b)
    · cases P.eqGuardType P.depth t with
      | true => exact lin_false
      | false =>
        cases eqT P 6 t _ _ with
        | none => exact lin_false
        | some b => exact lin_ret b
  · cases isPtrD (P.underlying t) with
    | true => exact lin_ret _
    | false => exact lin_false
  · cases isPtrD (P.underlying t) with
    | true => exact lin_ret _
    | false => exact lin_false
  · cases isPtrD (P.underlying t) with
    | true => exact lin_ret _
    | false => exact lin_false
  · exact lin_false
theorem lin_evBinary (P : Program) (op : BinOp) (t : TypeId) (x y : V) : Lin (evBinary P op t x y) := by
  unfold evBinary
  split
  · cases P.underlying t with
    | none => exact lin_false
    | some d => cases d <;> first | exact lin_ret _ | exact lin_false
  · cases P.underlying t with
    | none => exact lin_false
    | some d => cases d <;> first | exact lin_ret _ | exact lin_false
  · exact lin_map _ (lin_evEq P t _ _)
  · exact lin_map _ (lin_evEq P t _ _)
  · exact lin_map _ (lin_evEq P t _ _)
  · exact lin_map _ (lin_evEq P t _ _)
  · exact lin_map _ (lin_evEq P t _ _)
  · exact lin_map _ (lin_evEq P t _ _)
  · exact lin_evBin _ _ _
theorem lin_evUn (op : UnOp) (x : V) : Lin (evUn op x) := by
  cases op <;> cases x <;> first | exact lin_ret _ | exact lin_false
theorem lin_evConv (P : Program) (s d : TypeId) (x : V) : Lin (evConv P s d x) := by
  unfold evConv
  split
  · exact lin_ret _
  · exact lin_ret _
  · exact lin_ex (fun a => lin_ret _)
  · exact lin_ret _
  · exact lin_false
theorem lin_loadV (P : Program) (t : TypeId) (a : V) (m : List Blk) : Lin (loadV P t a m) := by
  have key : ∀ (i off : Nat), Lin (fun K => match isAggD (P.underlying t) with
      | true => rdN (getB m i).b off (P.cellsOf t) fun cs => K (.agg cs)
      | false => match P.underlying t with
        | some _ => rd1 (getB m i).b off K
        | none => False) := by
    intro i off
    cases hag : isAggD (P.underlying t) with
    | true => simp only; exact lin_map _ (lin_rdN _ _ _)
    | false =>
      simp only
      cases P.underlying t with
      | none => exact lin_false
      | some _ => exact lin_rd1 _ _
  unfold loadV
  cases a with
  | ptr i off => exact key i off
  | gp i v off => exact lin_and (key i off)
  | _ => exact lin_false
theorem lin_setB (m : List Blk) (i : Nat) (b : Blk) : Lin (setB m i b) := by rw [show setB m i b = _ from funext (setB_eq m i b)]; exact lin_ret _
theorem lin_storeV (P : Program) (t : TypeId) (a v : V) (m : List Blk) : Lin (storeV P t a v m) := by
  have key : ∀ (i off : Nat), Lin (fun K => match (getB m i).w, (getB m i).b.row, Nat.beq (lenL v.cellsL) (P.cellsOf t), P.info? t with
    | true, true, true, some _ => wrN (getB m i).b off v.cellsL fun b => setB m i ⟨true, b⟩ K
    | _, _, _, _ => False) := by
    intro i off
    split
    · exact lin_bind (lin_wrN _ _ _) fun b => lin_setB _ _ _
    · exact lin_false
  unfold storeV
  cases a with
  | ptr i off => exact key i off
  | gp i u off => exact lin_and (key i off)
  | _ => exact lin_false
theorem lin_boundV (ng : Nat) (t : List V) (lo hi : Nat) (o : Option Operand) (d : Nat) : Lin (boundV ng t lo hi o d) := by
  cases o with
  | none => exact lin_ret _
  | some o =>
    show Lin (fun K => match evO ng t o with
      | .int _ i => br (decide ((lo : Int) ≤ i ∧ i ≤ (hi : Int))) (K i.toNat) False
      | _ => False)
    cases evO ng t o <;> first | exact lin_br (lin_ret _) | exact lin_false
theorem lin_lenV (P : Program) (t : TypeId) (x : V) : Lin (lenV P t x) := by
  unfold lenV
  split
  · exact lin_ret _
  · exact lin_ret _
  · exact lin_ret _
  · exact lin_ret _
  · exact lin_ret _
  · exact lin_false
theorem lin_segB (b : B) (off n : Nat) : Lin (segB b off n) := by
  have cells : Lin (fun K : B → Prop => rdN b off n fun cs => br (allOne cs) (K (.cells cs)) False) := lin_bind (lin_rdN _ _ _) fun cs => lin_br (lin_ret _)
  cases b with
  | ints k l => exact lin_br (lin_ret _)
  | flts l => exact lin_br (lin_ret _)
  | gints v k l => exact lin_br (lin_ret _)
  | gflts v l => exact lin_br (lin_ret _)
  | _ => exact cells
theorem lin_srcV (es : Nat) (x : V) (m : List Blk) : Lin (fun K : Nat × B → Prop => srcV es x m fun n b => K (n, b)) := by
  unfold srcV
  split
  · exact lin_map _ (lin_segB _ _ _)
  · exact lin_map _ (lin_segB _ _ _)
  · exact lin_and (lin_map _ (lin_segB _ _ _))
  · exact lin_ret _
  · exact lin_false
theorem lin_growNew (z : Zero) (b : B) : Lin (growNew z b) := by
  unfold growNew
  split
  · split
    · exact lin_ret _
    · exact lin_false
  · split
    · exact lin_ret _
    · exact lin_false
  · exact lin_ret _
  · split
    · exact lin_ret _
    · exact lin_false
  · exact lin_ret _
  · exact lin_ret _
  · exact lin_false
theorem lin_growB (b c : B) : Lin (growB b c) := by
  unfold growB
  split
  · split
    · exact lin_ret _
    · exact lin_false
  · split
    · exact lin_ret _
    · exact lin_false
  · exact lin_ret _
  · split
    · exact lin_ret _
    · exact lin_false
  · exact lin_ret _
  · exact lin_false
theorem lin_catB (b c : B) : Lin (catB b c) := by
  unfold catB
  split
  · split
    · exact lin_ret _
    · exact lin_false
  · split
    · exact lin_ret _
    · exact lin_false
  · exact lin_ret _
  · split
    · exact lin_ret _
    · exact lin_false
  · exact lin_ret _
  · exact lin_ret _
  · exact lin_ret _
  · exact lin_false
theorem lin_pasteB (b : B) (off : Nat) (c : B) : Lin (pasteB b off c) := by
  unfold pasteB
  split
  · exact lin_br (lin_ret _)
  · split
    · exact lin_br (lin_ret _)
    · exact lin_false
  · exact lin_br (lin_ret _)
  · split
    · exact lin_br (lin_ret _)
    · exact lin_false
  · exact lin_br (lin_ret _)
  · exact lin_false
theorem lin_addB {α : Type} (m : List Blk) (b : Blk) (f : Nat → List Blk → α) : Lin (fun K : α → Prop => addB m b fun n m => K (f n m)) := by
  rw [show (fun K : α → Prop => addB m b fun n m => K (f n m)) = fun K => K (f m.length (m ++ [b])) from funext fun K => addB_eq _ _ _]
  exact lin_ret _
theorem lin_src {α : Type} {G : Nat → B → (α → Prop) → Prop} (es : Nat) (x : V) (m : List Blk) (hg : ∀ n b, Lin (G n b)) : Lin (fun K : α → Prop => srcV es x m fun n b => G n b K) :=
  lin_bind (G := fun p K => G p.1 p.2 K) (lin_srcV es x m) fun p => hg p.1 p.2
theorem lin_appendV (P : Program) (ty : TypeId) (s x : V) (m : List Blk) : Lin (fun K : V × List Blk → Prop => appendV P ty s x m fun v m => K (v, m)) := by
  unfold appendV
  split
  · split
    · refine lin_br (lin_src _ _ _ fun n c => ?_)
      split
      · exact lin_and (lin_bind (lin_growNew _ _) fun b => lin_addB _ _ fun i m => (V.gs i 0 _ _, m))
      · refine lin_and ?_
        split
        · exact lin_bind (lin_growB _ _) fun b => lin_map (fun m => (V.gs _ _ _ _, m)) (lin_setB _ _ _)
        · exact lin_false
      · refine lin_and (lin_br2 ?_ ?_)
        · split
          · exact lin_bind (lin_pasteB _ _ _) fun b => lin_map (fun m => (V.sk _ _ _ _, m)) (lin_setB _ _ _)
          · exact lin_false
        · exact lin_bind (lin_segB _ _ _) fun d => lin_bind (lin_catB _ _) fun c => lin_bind (lin_growNew _ _) fun b => lin_addB _ _ fun i m => (V.gs i 0 _ _, m)
      · exact lin_false
    · exact lin_false
  · exact lin_false
theorem lin_copyV (P : Program) (ty : TypeId) (d x : V) (m : List Blk) : Lin (fun K : V × List Blk → Prop => copyV P ty d x m fun v m => K (v, m)) := by
  unfold copyV
  split
  · refine lin_br ?_
    split
    · refine lin_bind (lin_segB _ _ _) fun c => ?_
      split
      · exact lin_bind (lin_pasteB _ _ _) fun b => lin_map (fun m => (V.int .i64 _, m)) (lin_setB _ _ _)
      · exact lin_false
    · exact lin_false
  · exact lin_false
theorem lin_lookupV (P : Program) (ty : TypeId) (x k : V) (ok : Bool) (m : List Blk) : Lin (lookupV P ty x k ok m) := by
  unfold lookupV
  split
  · refine lin_and ?_
    split
    · unfold lookV
      split
      · split
        · exact lin_ret _
        · exact lin_ret _
      · split
        · exact lin_ret _
        · exact lin_ret _
    · exact lin_false
  · exact lin_false
theorem lin_mapUpdV (P : Program) (ty : TypeId) (x k v : V) (m : List Blk) : Lin (mapUpdV P ty x k v m) := by
  unfold mapUpdV
  split
  · refine lin_and ?_
    split
    · exact lin_setB _ _ _
    · exact lin_false
  · exact lin_false
theorem lin_maxV (gt : Bool) : ∀ (l : List V) (x : V), Lin (maxV gt l x)
  | [], x => lin_ret _
  | v :: l, x => by
    cases v <;> cases x <;> first
      | (cases gt
         · exact lin_br (lin_maxV false l _)
         · exact lin_br (lin_maxV true l _))
      | exact lin_false
theorem lin_mmV (gt : Bool) (l : List V) : Lin (mmV gt l) := by
  cases l with
  | nil => exact lin_false
  | cons v l => cases v <;> first | exact lin_maxV gt l _ | exact lin_false
theorem lin_zrow (P : Program) (e : TypeId) (n : Nat) : Lin (zrow P e n) := by
  unfold zrow
  cases zeroL P e with
  | none => exact lin_false
  | some z =>
    simp only
    split
    · exact lin_ret _
    · exact lin_ret _
    · exact lin_ret _
    · exact lin_false

/-- The same for a result and the memory behind it. -/
def Two (P : Program) (ng : Nat) (op : Op) (t : List V) (m : List Blk) : (V × List Blk → Prop) → Prop := fun K => evOp P ng op t m fun v m' => K (v, m')
theorem lin_op (P : Program) (ng : Nat) (op : Op) (t : List V) (m : List Blk) : Lin (Two P ng op t m) := by
  have two : ∀ {F : (V → Prop) → Prop}, Lin F → Lin (fun K : V × List Blk → Prop => F fun v => K (v, m)) := fun h => lin_map _ h
  unfold Two
  cases op <;> try exact lin_false
  case move x => exact two (lin_fV _)
  case assign x => exact two (lin_fV _)
  case pick c x y =>
    show Lin (fun K => match evO ng t c with
      | .bool true => fV (evO ng t x) fun v => K (v, m)
      | .bool false => fV (evO ng t y) fun v => K (v, m)
      | _ => False)
    cases evO ng t c with
    | bool b => cases b <;> exact two (lin_fV _)
    | _ => exact lin_false
  case alloc e =>
    show Lin (fun K => match zeroL P e with
      | some z => br (allOne z) (addB m ⟨true, .cells z⟩ fun n m => K (V.ptr n 0, m)) False
      | none => False)
    cases zeroL P e with
    | none => exact lin_false
    | some z => exact lin_br (lin_addB _ _ fun n m => (V.ptr n 0, m))
  case box e x =>
    show Lin (fun K => fV (evO ng t x) fun v => br (allOne v.cellsL) (addB m ⟨true, .cells v.cellsL⟩ fun n m => K (V.ptr n 0, m)) False)
    exact lin_bind (lin_fV _) fun v => lin_br (lin_addB _ _ fun n m => (V.ptr n 0, m))
  case build ty ps =>
    simp only [evOp]
    cases P.info? ty with
    | none => exact lin_false
    | some it =>
      cases P.underlying ty with
      | none => exact lin_false
      | some d =>
        cases d <;> try exact lin_false
        case array n e =>
          simp only
          cases it.zero with
          | none => exact lin_false
          | some z =>
            cases P.info? e with
            | none => exact lin_false
            | some ie => exact lin_bind (lin_evParts _ _ _) fun ps => lin_map _ (lin_fillV _ _ _)
        case struct fs =>
          simp only
          cases it.zero with
          | none => exact lin_false
          | some z =>
            cases fs.toList.mapM (fun f => (P.info? f.type).map fun i => (f.offset, i.size)) with
            | none => exact lin_false
            | some pl => exact lin_bind (lin_evParts _ _ _) fun ps => lin_map _ (lin_fillV _ _ _)
  case buildSlice ty n ps =>
    simp only [evOp]
    cases sliceD (P.underlying ty) with
    | none => exact lin_false
    | some e =>
      simp only
      cases zeroL P e with
      | none => exact lin_false
      | some z =>
        cases Nat.blt 0 (n * P.cellsOf e) with
        | false => exact lin_false
        | true =>
          cases Nat.ble (n * P.cellsOf e) (2 ^ 24) with
          | false => exact lin_false
          | true => exact lin_br (lin_bind (lin_evParts _ _ _) fun ps => lin_bind (lin_fillV _ _ _) fun cs => lin_br (lin_addB _ _ fun i m => (V.sl i 0 n, m)))
  case load ty x => exact two (lin_loadV _ _ _ _)
  case store ty x y => exact lin_bind (lin_fV _) fun v => lin_map (fun m => (V.un, m)) (lin_storeV _ _ _ _ _)
  case nilCheck x =>
    simp only [evOp]
    cases evO ng t x with
    | ptr i o => exact lin_ret _
    | gp i v o => exact lin_ret _
    | clo fn a b => cases fn <;> first | exact lin_ret _ | exact lin_false
    | _ => exact lin_false
  case binOp op ty x y yt => exact two (lin_evBinary _ _ _ _ _)
  case unOp op ty x => exact two (lin_evUn _ _)
  case convert s d x => exact two (lin_evConv _ _ _ _)
  case makeFunc fn a b => exact lin_bind (lin_evArgs _ _ _) fun a => lin_map _ (lin_evArgs _ _ _)
  case makeSlice ty l c =>
    simp only [evOp]
    cases sliceD (P.underlying ty) with
    | none => exact lin_false
    | some e =>
      cases evO ng t l <;> try exact lin_false
      cases evO ng t c <;> try exact lin_false
      exact lin_br (lin_br (lin_bind (lin_zrow _ _ _) fun b => lin_addB _ _ fun i m => (mkSl _ i _ _, m)))
  case slice ty x lo hi mx =>
    have body : Lin (fun K : V × List Blk → Prop => match P.underlying ty, evO ng t x with
      | some (.array n e), .ptr i off => br (Nat.blt 0 (P.cellsOf e)) (boundV ng t 0 n mx n fun c => boundV ng t 0 c hi n fun h => boundV ng t 0 h lo 0 fun l => K (.sl i (off + l * P.cellsOf e) (h - l), m)) False
      | some (.slice e), .sl i off n => br (Nat.blt 0 (P.cellsOf e)) (boundV ng t 0 n mx n fun c => boundV ng t 0 c hi n fun h => boundV ng t 0 h lo 0 fun l => K (slcV mx i (off + l * P.cellsOf e) (h - l) (c - l), m)) False
      | some (.slice e), .sk i off n cap => br (Nat.blt 0 (P.cellsOf e)) (boundV ng t 0 cap mx cap fun c => boundV ng t 0 c hi n fun h => boundV ng t 0 h lo 0 fun l => K (.sk i (off + l * P.cellsOf e) (h - l) (c - l), m)) False
      | _, _ => False) := by
      cases P.underlying ty with
      | none => exact lin_false
      | some d =>
        cases d <;> try exact lin_false
        case array n e =>
          cases evO ng t x <;> try exact lin_false
          exact lin_br (lin_bind (lin_boundV _ _ _ _ _ _) fun c => lin_bind (lin_boundV _ _ _ _ _ _) fun h => lin_map _ (lin_boundV _ _ _ _ _ _))
        case slice e =>
          cases evO ng t x <;> try exact lin_false
          · exact lin_br (lin_bind (lin_boundV _ _ _ _ _ _) fun c => lin_bind (lin_boundV _ _ _ _ _ _) fun h => lin_map _ (lin_boundV _ _ _ _ _ _))
          · exact lin_br (lin_bind (lin_boundV _ _ _ _ _ _) fun c => lin_bind (lin_boundV _ _ _ _ _ _) fun h => lin_map _ (lin_boundV _ _ _ _ _ _))
    cases hi <;> cases mx <;> first | exact body | exact lin_false
  case fieldAddr s x i =>
    simp only [evOp]
    cases evO ng t x <;> try exact lin_false
    all_goals
      cases fieldOf (P.underlying s) i with
      | none => exact lin_false
      | some f =>
        simp only
        cases P.cellsOf f.type with
        | zero => exact lin_false
        | succ n => exact lin_ret _
  case field ty x i =>
    simp only [evOp]
    cases evO ng t x <;> try exact lin_false
    cases fieldOf (P.underlying ty) i with
    | none => exact lin_false
    | some f => exact two (lin_partV _ _ _ _)
  case indexAddr ty x ix =>
    simp only [evOp]
    cases P.underlying ty with
    | none => exact lin_false
    | some d =>
      cases d <;> try exact lin_false
      case array n e =>
        cases evO ng t x <;> try exact lin_false
        all_goals
          cases evO ng t ix <;> try exact lin_false
          exact lin_br (lin_br (lin_ret _))
      case slice e =>
        cases evO ng t x <;> try exact lin_false
        all_goals
          cases evO ng t ix <;> try exact lin_false
          exact lin_br (lin_br (lin_ret _))
  case index ty x ix =>
    simp only [evOp]
    cases P.underlying ty with
    | none => exact lin_false
    | some d =>
      cases d <;> try exact lin_false
      case string =>
        cases evO ng t x <;> try exact lin_false
        rename_i v
        cases v <;> try exact lin_false
        cases evO ng t ix <;> try exact lin_false
        dsimp only
        split
        · exact lin_ret _
        · exact lin_false
      case array n e =>
        cases evO ng t x <;> try exact lin_false
        cases evO ng t ix <;> try exact lin_false
        exact lin_br (lin_br (two (lin_partV _ _ _ _)))
  case makeMap ty r =>
    cases r with
    | none =>
      show Lin (fun K => match P.underlying ty with
        | some (.map _ _) => addB m ⟨true, .mpI fun _ _ => none⟩ fun i m => K (V.mp i, m)
        | _ => False)
      split
      · exact lin_addB _ _ fun i m => (V.mp i, m)
      · exact lin_false
    | some o =>
      show Lin (fun K => match P.underlying ty, evO ng t o with
        | some (.map _ _), .int _ _ => addB m ⟨true, .mpI fun _ _ => none⟩ fun i m => K (V.mp i, m)
        | _, _ => False)
      split
      · exact lin_addB _ _ fun i m => (V.mp i, m)
      · exact lin_false
  case lookup ty x k ok => exact two (lin_lookupV _ _ _ _ _ _)
  case mapUpdate ty x k v => exact lin_map (fun m => (V.un, m)) (lin_mapUpdV _ _ _ _ _ _)
  case extract x i =>
    simp only [evOp]
    cases evO ng t x <;> try exact lin_false
    exact lin_br (two (lin_fV _))
  case call c =>
    obtain ⟨callee, args, ats⟩ := c
    cases callee with
    | value f =>
      show Lin (fun K => match evO ng t f with
        | .clo (.func f) a b => evArgs ng t args.toList fun vs => callVC P ng f (appL a (appL vs b)) m fun v m' => K (v, m')
        | _ => False)
      cases evO ng t f <;> try exact lin_false
      rename_i fn a b
      cases fn <;> try exact lin_false
      rename_i f
      refine lin_bind (lin_evArgs _ _ _) fun vs => ?_
      have e : (fun K : V × List Blk → Prop => callVC P ng f (appL a (appL vs b)) m fun v m' => K (v, m')) = fun K => ∃ p : V × List Blk, COk P ng f (appL a (appL vs b)) m p.1 p.2 ∧ fV p.1 fun r => K (r, p.2) := by
        funext K
        exact propext ⟨fun ⟨r, m', h⟩ => ⟨(r, m'), h⟩, fun ⟨p, h⟩ => ⟨p.1, p.2, h⟩⟩
      rw [e]
      exact lin_ex fun p => lin_map _ (lin_fV _)
    | invoke r n => exact lin_false
    | builtin b =>
      cases b <;> try exact lin_false
      case len =>
        show Lin (fun K => match args.toList, ats.toList with
          | [x], [ty] => lenV P ty (evO ng t x) fun v => K (v, m)
          | _, _ => False)
        split
        · exact two (lin_lenV _ _ _)
        · exact lin_false
      case append =>
        show Lin (fun K => match args.toList, ats.toList with
          | [s, x], [ty, tx] => match sliceD (P.underlying tx) with
            | some _ => appendV P ty (evO ng t s) (evO ng t x) m fun v m' => K (v, m')
            | none => False
          | _, _ => False)
        split
        · split
          · exact lin_appendV _ _ _ _ _
          · exact lin_false
        · exact lin_false
      case copy =>
        show Lin (fun K => match args.toList, ats.toList with
          | [d, x], ty :: _ => copyV P ty (evO ng t d) (evO ng t x) m fun v m' => K (v, m')
          | _, _ => False)
        split
        · exact lin_copyV _ _ _ _ _
        · exact lin_false
      case max => exact lin_bind (lin_evArgs _ _ _) fun vs => two (lin_mmV _ _)
      case min => exact lin_bind (lin_evArgs _ _ _) fun vs => two (lin_mmV _ _)
end
end Go.Eng
