import Derived.Test.YtgoljofmbidkfaaGreatDoorF
import Derived.Test.YtgoljofmbidkfaaGreatDoorRows
import Derived.ProofKit
import Derived.LaidMore
import Derived.OpenShut
import Derived.Stop.Joined
import Derived.Lib.LaidU8
import Derived.MakeChecks
import Derived.Below
import Derived.Carry
import Derived.Test.YtgoljofmbidkfaaGreatDoorLv
import Derived.ChangeSlices
import Derived.JoinedCond
import Derived.Laws.Cover2
import Derived.Test.YtgoljofmbidkfaaGreatDoorZa
/- The bridge from a contract to a row: the listed tables as abstract memory; the wrap with the world's shape. No condition. -/
namespace Go.Proofs.YtgoljofmbidkfaaGreatDoor
open Go Go.Eng Go.ChangeShapes Go.WideShapes Go.RowKit
set_option maxRecDepth 100000
set_option linter.unusedSimpArgs false
set_option linter.unusedVariables false

section
variable {H : Type} {enc : TypeId × Value → H} {P : Program} {w : World} {base : Nat} {sp : Nat → Bool} {held : Bool}
/-- An array, of whose elements one knows how they read. -/
theorem trod_level {α : Type} {t e : TypeId} {n : Nat} (f : α → List Value) (D : α → DataW H)
    (hE : ∀ fuel cs d p, DataW.trod enc P w base sp held fuel e cs = some (d, p) → ∃ a, cs = f a ∧ d = D a) (ht : P.underlying t = some (.array n e)) (hl : P.cellsOf t = n * P.cellsOf e) :
    ∀ fuel cs d p, DataW.trod enc P w base sp held fuel t cs = some (d, p) → ∃ zs : List α, cs = zs.flatMap f ∧ d = .agg (zs.map D) := by
  intro fuel cs d p h
  obtain ⟨xs, m, rfl, hx, hlen, hn, hel⟩ := DataW.trod_array ht h
  rw [hl] at hlen
  have key : ∀ (n : Nat) (cs : List Value) (xs : List (DataW H × List MemPlace)), cs.length = n * P.cellsOf e → xs.length = n →
      (∀ i, i < n → DataW.trod enc P w base sp held m e ((cs.drop (i * P.cellsOf e)).take (P.cellsOf e)) = xs[i]?) → ∃ zs : List α, cs = zs.flatMap f ∧ xs.map (·.1) = zs.map D := by
    intro n
    induction n with
    | zero =>
      intro cs xs h1 h2 _
      obtain rfl : cs = [] := List.eq_nil_of_length_eq_zero (by omega)
      obtain rfl : xs = [] := List.eq_nil_of_length_eq_zero h2
      exact ⟨[], rfl, rfl⟩
    | succ n ih =>
      intro cs xs h1 h2 h3
      match xs, h2 with
      | x :: xs, h2 =>
        have h0 := h3 0 (by omega)
        simp only [Nat.zero_mul, List.drop_zero, List.getElem?_cons_zero] at h0
        obtain ⟨a, ha, hd⟩ := hE m _ x.1 x.2 h0
        obtain ⟨zs, k1, k2⟩ := ih (cs.drop (P.cellsOf e)) xs (by rw [List.length_drop, h1, Nat.add_mul]; omega) (by simpa using h2) (fun i hi => by
          have := h3 (i + 1) (by omega)
          rw [List.drop_drop]
          rw [List.getElem?_cons_succ] at this
          rw [← this, Nat.add_mul, Nat.one_mul, Nat.add_comm])
        refine ⟨a :: zs, ?_, ?_⟩
        · rw [List.flatMap_cons, ← ha, ← k1, List.take_append_drop]
        · simp [hd, k2]
  obtain ⟨zs, k1, k2⟩ := key n cs xs hlen hn hel
  refine ⟨zs, k1, ?_⟩
  simp only [Prod.mk.injEq] at hx
  rw [hx.1, k2]
end
theorem map_inj {α β : Type} {f : α → β} (hf : ∀ a b, f a = f b → a = b) : ∀ l l' : List α, l.map f = l'.map f → l = l'
  | [], [], _ => rfl
  | a :: l, b :: l', h => by
    simp only [List.map_cons, List.cons.injEq] at h
    rw [hf _ _ h.1, map_inj hf l l' h.2]
abbrev D0 (z : Int) : DataW Unit := .lit (.int .i64 z)
abbrev D1 (l : List Int) : DataW Unit := .agg (l.map D0)
abbrev D2 (l : List (List Int)) : DataW Unit := .agg (l.map D1)
abbrev D3 (l : List (List (List Int))) : DataW Unit := .agg (l.map D2)
theorem D0_inj (a b : Int) (h : D0 a = D0 b) : a = b := by injection h with h; injection h
theorem D1_inj (a b : List Int) (h : D1 a = D1 b) : a = b := by injection h with h; exact map_inj D0_inj _ _ h
theorem D2_inj (a b : List (List Int)) (h : D2 a = D2 b) : a = b := by injection h with h; exact map_inj D1_inj _ _ h
theorem D3_inj (a b : List (List (List Int))) (h : D3 a = D3 b) : a = b := by injection h with h; exact map_inj D2_inj _ _ h
def cube3 : List (List (List Int)) := [[[1,0,0],[0,1,0],[0,0,1]],[[0,1,0],[-1,0,0],[0,0,1]],[[-1,0,0],[0,-1,0],[0,0,1]],[[0,-1,0],[1,0,0],[0,0,1]],[[0,0,1],[0,1,0],[-1,0,0]],[[0,0,-1],[0,1,0],[1,0,0]]]
def cells0 (z : Int) : List Value := [.int .i64 z]
def cells1 (l : List Int) : List Value := l.flatMap cells0
def cells2 (l : List (List Int)) : List Value := l.flatMap cells1
def cells3 (l : List (List (List Int))) : List Value := l.flatMap cells2
theorem cells_cube : cells3 cube3 = cubeL.map (Value.int .i64) := rfl
section
variable {w : World} {base : Nat} {sp : Nat → Bool} {held : Bool}
theorem read0 (fuel : Nat) (cs : List Value) (d : DataW Unit) (p : List MemPlace) (h : DataW.trod (fun _ => ()) Tryz.prog w base sp held fuel 3 cs = some (d, p)) : ∃ z, cs = cells0 z ∧ d = D0 z := by
  obtain ⟨n, h1, h2, _⟩ := DataW.trod_int (show Tryz.prog.underlying 3 = some (.int .i64) by kernel_rfl) h
  injection h2 with h2
  exact ⟨n, h1, h2⟩
/-- An array [6][3][3]int, whatever its types' names. -/
theorem read3 {t1 t2 t3 : TypeId} (u1 : Tryz.prog.underlying t1 = some (.array 3 3)) (u2 : Tryz.prog.underlying t2 = some (.array 3 t1)) (u3 : Tryz.prog.underlying t3 = some (.array 6 t2))
    (c1 : Tryz.prog.cellsOf t1 = 3 * Tryz.prog.cellsOf 3) (c2 : Tryz.prog.cellsOf t2 = 3 * Tryz.prog.cellsOf t1) (c3 : Tryz.prog.cellsOf t3 = 6 * Tryz.prog.cellsOf t2)
    (fuel : Nat) (cs : List Value) (d : DataW Unit) (p : List MemPlace) (h : DataW.trod (fun _ => ()) Tryz.prog w base sp held fuel t3 cs = some (d, p)) : ∃ zs, cs = cells3 zs ∧ d = D3 zs :=
  trod_level cells2 D2 (fun _ _ _ _ h => trod_level cells1 D1 (fun _ _ _ _ h => trod_level cells0 D0 read0 u1 c1 _ _ _ _ h) u2 c2 _ _ _ _ h) u3 c3 _ _ _ _ h
end
/-- What the condition gives: the two tables' cells. -/
theorem table_of {W : World} {n : String} {g : Nat} {t1 t2 t3 : TypeId} {d : DataW Unit} (hg : Tryz.prog.globalNamed n = some g) (ht : (Tryz.prog.globals[g]?).map (·.type) = some t3)
    (u1 : Tryz.prog.underlying t1 = some (.array 3 3)) (u2 : Tryz.prog.underlying t2 = some (.array 3 t1)) (u3 : Tryz.prog.underlying t3 = some (.array 6 t2))
    (c1 : Tryz.prog.cellsOf t1 = 3 * Tryz.prog.cellsOf 3) (c2 : Tryz.prog.cellsOf t2 = 3 * Tryz.prog.cellsOf t1) (c3 : Tryz.prog.cellsOf t3 = 6 * Tryz.prog.cellsOf t2)
    (hd : d = D3 cube3) (h : Lib.VarReads Tryz.prog W n d) (j : Nat) : W.cell? ⟨g, j, none⟩ = (cubeL.map (Value.int .i64))[j]? := by
  obtain ⟨g0, t0, cs0, f0, p0, hg0, ht0, hv0, hd0⟩ := h
  obtain rfl := Option.some.inj (hg.symm.trans hg0)
  obtain rfl := Option.some.inj (ht.symm.trans ht0)
  obtain ⟨zs, k1, k2⟩ := read3 u1 u2 u3 c1 c2 c3 f0 _ _ _ hd0
  rw [hd] at k2
  have := D3_inj _ _ k2
  subst this
  rw [World.var?_cell hg0 hv0 j, ← Array.getElem?_toList, k1, cells_cube]
theorem tables {W : World} (h : laidMetH Tryz.prog [("tarn/cube.frames", Rows.laid_tarn_cube_frames), ("tarn/geom.frames", Rows.laid_tarn_geom_frames)] W) :
    (∀ j, W.cell? ⟨0, j, none⟩ = (cubeL.map (Value.int .i64))[j]?) ∧ ∀ j, W.cell? ⟨2, j, none⟩ = (cubeL.map (Value.int .i64))[j]? := by
  rw [MakeChecks.laidMetH_plain _ _ _ (by kernel_rfl)] at h
  exact ⟨table_of (by kernel_rfl) (by kernel_rfl) (t1 := 125) (t2 := 127) (t3 := 133) (by kernel_rfl) (by kernel_rfl) (by kernel_rfl) (by kernel_rfl) (by kernel_rfl) (by kernel_rfl) rfl (Lib.laidMet.reads h (.head _)),
    table_of (by kernel_rfl) (by kernel_rfl) (t1 := 124) (t2 := 189) (t3 := 190) (by kernel_rfl) (by kernel_rfl) (by kernel_rfl) (by kernel_rfl) (by kernel_rfl) (by kernel_rfl) rfl (Lib.laidMet.reads h (.tail _ (.head _)))⟩
theorem size_of_shaped {W : World} (h : W.ShapedOpen Tryz.prog) : 2 < W.heap.size := by
  obtain ⟨h1, _⟩ := h
  have h2 : (((begin Tryz.prog (fun _ _ => 0) default).world.heap[2]?).bind Obj.row?).isSome = true := by kernel_rfl
  obtain ⟨⟨zero, t⟩, h3⟩ := Option.isSome_iff_exists.mp h2
  obtain ⟨cs, h4, _⟩ := h1 2 zero t (of_decide_eq_true (by kernel_rfl)) h3
  exact (Array.getElem?_eq_some_iff.mp h4).1
theorem repB_tab {n : Nat} {g : Nat → Pl} {w : World} {k : Nat} (hk : k < w.heap.size) (h : ∀ j, w.cell? ⟨k, j, none⟩ = (cubeL.map (Value.int .i64))[j]?) : RepB n g w ⟨k, 0, 0, 0⟩ Gcube where
  size := hk
  cell := fun j v hv => by
    have hv : (cubeL.map (V.int .i64))[j]? = some v := hv
    rw [List.getElem?_map] at hv
    cases hc : cubeL[j]? with
    | none => rw [hc] at hv; exact nomatch hv
    | some z =>
      rw [hc] at hv
      injection hv with hv
      subst hv
      refine ⟨.int .i64 z, ?_, rfl⟩
      show w.cell? ⟨k, 0 + j, none⟩ = _
      rw [Nat.zero_add, h j, List.getElem?_map, hc]
      rfl
  free := fun h => nomatch h
  room := fun _ j hj => absurd hj (Nat.not_lt_zero j)
  map := fun f hf => nomatch hf
  ver := rfl
theorem ro_of {i : Nat} {b : Blk} (h : (GG [])[i]? = some b) : b.w = false := roM_get (m := GG []) (by kernel_rfl) h
theorem rep_of {W : World} (h : laidMetH Tryz.prog [("tarn/cube.frames", Rows.laid_tarn_cube_frames), ("tarn/geom.frames", Rows.laid_tarn_geom_frames)] W) (hs : W.ShapedOpen Tryz.prog) : Rep (fun i => ⟨i, 0, 0, 0⟩) (GG []) W where
  blk := fun i b hb => by
    have h2 := size_of_shaped hs
    obtain ⟨t1, t2⟩ := tables h
    match i, hb with
    | 0, hb => injection hb with hb; subst hb; first | exact repB_tab (by omega) t1 | exact repB_tab (by omega) t2 | exact ⟨(by show 0 < W.heap.size; omega), (fun j v hv => nomatch hv), (fun h => nomatch h), (fun _ j hj => absurd hj (Nat.not_lt_zero j)), (fun f hf => nomatch hf), rfl⟩
    | 1, hb => injection hb with hb; subst hb; first | exact repB_tab (by omega) t1 | exact repB_tab (by omega) t2 | exact ⟨(by show 1 < W.heap.size; omega), (fun j v hv => nomatch hv), (fun h => nomatch h), (fun _ j hj => absurd hj (Nat.not_lt_zero j)), (fun f hf => nomatch hf), rfl⟩
    | 2, hb => injection hb with hb; subst hb; first | exact repB_tab (by omega) t1 | exact repB_tab (by omega) t2 | exact ⟨(by show 2 < W.heap.size; omega), (fun j v hv => nomatch hv), (fun h => nomatch h), (fun _ j hj => absurd hj (Nat.not_lt_zero j)), (fun f hf => nomatch hf), rfl⟩
    | i + 3, hb => exact nomatch hb
  apart := fun i j b c _ hb _ hw _ _ => by rw [ro_of hb] at hw; cases hw
abbrev laid2 : List (String × DataW Unit) := [("tarn/cube.frames", Rows.laid_tarn_cube_frames), ("tarn/geom.frames", Rows.laid_tarn_geom_frames)]
theorem own : ownKnob Tryz.prog.godebug = none := by kernel_rfl
theorem laidOut : laidOutB Tryz.prog = true := by kernel_rfl
theorem door_met (os : Os) (args : Array Value) : laidMetH Tryz.prog laid2 ((World.doorLaid Tryz.prog 400 os).forCall (fun _ _ => 0) ⟨#[], args, []⟩).memory :=
  laidMetH_of_parts3 (fuel := 8) (laidMet_of_run' 8 (by kernel_rfl) (by kernel_rfl)) (by kernel_rfl) (by kernel_rfl)
section
variable {H : Type} {enc : TypeId × Value → H}
theorem trodAll_below {P : Program} {W W' : World} (hl : laidOutB P = true) (hb : Below W.heap.size W W') : ∀ {ts : List TypeId} {vs : List Value} {ds : List (DataW H)} {ps : List MemPlace},
    (∀ t ∈ ts, P.readableRec t = true ∧ t < P.types.size) → DataW.TrodAll enc P W 0 (fun _ => true) true ts vs ds ps → (∀ x ∈ ps, x.block < W.heap.size) →
    DataW.TrodAll enc P W' 0 (fun b => decide (b < W.heap.size)) true ts vs ds ps
  | [], [], [], _, _, h, _ => h
  | t :: ts, v :: vs, d :: ds, _, ht, ⟨p, q, h1, h2, rfl⟩, hlt => by
    obtain ⟨k1, k2⟩ := ht t (List.mem_cons_self ..)
    exact ⟨p, q, Below.trod hl k1 k2 h1 hb (fun x hx => hlt x (List.mem_append_left _ hx)), trodAll_below hl hb (fun t h => ht t (List.mem_cons_of_mem _ h)) h2 (fun x hx => hlt x (List.mem_append_right _ hx)), rfl⟩
theorem trodAll_len {P : Program} {W : World} {base : Nat} {sp : Nat → Bool} {held : Bool} : ∀ {ts : List TypeId} {vs : List Value} {ds : List (DataW H)} {ps : List MemPlace},
    DataW.TrodAll enc P W base sp held ts vs ds ps → ds.length = ts.length
  | [], [], [], _, _ => rfl
  | t :: ts, v :: vs, d :: ds, _, ⟨p, q, _, h2, _⟩ => by rw [List.length_cons, List.length_cons, trodAll_len h2]
end

/-- The tables and read-only blocks 'z' lie in W. -/
structure Lay (W : World) (z : List Blk) (g : Nat → Pl) : Prop where
  rep : Rep g (GG z) W
  base : ∀ i, i < 3 → g i = ⟨i, 0, 0, 0⟩
  ro : roM (GG z) = true
  sc : scM (GG z).length (GG z) = true
theorem roM_snoc : ∀ {m : List Blk} {b : Blk}, roM m = true → b.w = false → roM (m ++ [b]) = true
  | [], b, _, h => by simp [roM, h]
  | c :: m, b, h, h' => by
    simp only [roM, List.cons_append, Bool.and_eq_true] at *
    exact ⟨h.1, roM_snoc h.2 h'⟩
theorem Lay.len {W : World} {z : List Blk} {g : Nat → Pl} (h : Lay W z g) : 0 < W.heap.size := by
  have h0 : ∃ b, (GG z)[0]? = some b := ⟨_, rfl⟩
  obtain ⟨b, hb⟩ := h0
  have := (h.rep.blk 0 b hb).size
  omega
/-- One block more. -/
theorem Lay.snoc {W : World} {z : List Blk} {g : Nat → Pl} (h : Lay W z g) (b : Blk) (p : Pl) (hw : b.w = false) (hb : RepB ((GG z).length + 1) (newAtP g (GG z).length p) W p b) (hs : b.b.sc ((GG z).length + 1) = true) :
    Lay W (z ++ [b]) (newAtP g (GG z).length p) := by
  have e : GG (z ++ [b]) = GG z ++ [b] := rfl
  have hold : ∀ i, i < (GG z).length → newAtP g (GG z).length p i = g i := newAtP_old g _ p
  have hnew : newAtP g (GG z).length p (GG z).length = p := by simp [newAtP]
  refine ⟨?_, fun i hi => ?_, by rw [e]; exact roM_snoc h.ro hw, ?_⟩
  · rw [e]
    refine ⟨fun i d hd => ?_, fun i j c d hij hc hd hcw _ _ => ?_⟩
    · rcases snoc_get hd with ⟨hi, hd⟩ | ⟨rfl, rfl⟩
      · rw [hold i hi]
        exact (h.rep.blk i d hd).congr rfl (by simp) fun k hk => .inl (hold k hk)
      · rw [hnew]
        simpa using hb
    · have := roM_get (by rw [← e]; exact (by rw [e]; exact roM_snoc h.ro hw)) hc
      rw [this] at hcw; cases hcw
  · have : i < (GG z).length := by simp; omega
    rw [hold i this]; exact h.base i hi
  · rw [e]
    refine scM_app (scM_mono (by simp) _ h.sc) ?_
    simp only [List.length_append, List.length_cons, List.length_nil]
    simp [scM] at hs ⊢
    exact hs
theorem in64_wf {n : Int} (h : (Lit.int .i64 n).wf = true) : in64 n := by
  simp only [Lit.wf, Bool.and_eq_true, decide_eq_true_eq] at h
  have e1 : IntKind.min .i64 = -9223372036854775808 := by decide
  have e2 : IntKind.max .i64 = 9223372036854775807 := by decide
  rw [e1, e2] at h
  exact ⟨h.1, by omega⟩
section
variable {H : Type} {enc : TypeId × Value → H}
theorem nofoot_ro {g : Nat → Pl} {m : List Blk} (h : roM m = true) {p : Nat} : ¬ Foot g m p := by
  rintro ⟨i, b, hb, hw, _⟩
  rw [roM_get h hb] at hw
  cases hw
theorem lay0 {W : World} (h : laidMetH Tryz.prog [("tarn/cube.frames", Rows.laid_tarn_cube_frames), ("tarn/geom.frames", Rows.laid_tarn_geom_frames)] W) (hs : W.ShapedOpen Tryz.prog) : Lay W [] (fun i => ⟨i, 0, 0, 0⟩) :=
  ⟨rep_of h hs, fun _ _ => rfl, by kernel_rfl, by kernel_rfl⟩
/-- A law's contract, at a world that fits. -/
theorem calls_lay {f : FuncId} (fn : Func) {args : List V} {xs : List Value} {W : World} {z : List Blk} {g : Nat → Pl} (hf : Tryz.prog.funcs[f]? = some fn) (hp : plainFn fn = true) (L : Lay W z g) (hk : COk Tryz.prog 3 f args (GG z) (Bo true) (GG z))
    (ha : Rvs (GG z).length g args xs) : Calls Tryz.prog f xs.toArray W fun e W' => e = .returned (.bool true) ∧ Below W.heap.size W W' := by
  have key := hk g W xs ⟨by simp, fun i hi => L.base i hi⟩ L.rep ha
  simp only [plainFn, Bool.and_eq_true, bne_iff_ne, ne_eq, Option.isSome_iff_exists] at hp
  obtain ⟨h1, c, h2⟩ := hp
  have e : (callFunc f xs.toArray).run Tryz.prog W = .ok (.enter f xs.toArray) W := by simp [callFunc, hf, h1, h2]
  rw [e] at key
  refine key.mono ?_
  rintro e W' ⟨g', x, rfl, hx, _, st⟩
  have hx : x = .bool true := hx
  subst hx
  exact ⟨rfl, st.os, st.tape, st.output, st.size, fun k hk => st.same k hk (nofoot_ro L.ro)⟩
theorem handed_sized {a : Assume} {C : Checked} {os : Os} {f : FuncId} {fn : Func} {s : ChangeSpec} {conds : List PathCond} {apart fresh handsOn again : Bool} {X : World → Array Value → Prop}
    (hX : ∀ (w w' : World) (args : Array Value), w.heap = w'.heap → X w args → X w' args)
    (own : ownKnob C.prog.godebug = none) (started : os.Started) (noInit : C.prog.inits.idxOf? f = none) (hfn : C.prog.funcs[f]? = some fn)
    (witness : ∃ (w : World) (tape : Tape) (i : Input), w.os = os ∧ (w.forCall tape i).Shaped C.prog ∧ i.vars = [] ∧ Input.okWide C.prog (w.forCall tape i) .any w.heap.size f i ∧
      ((s.pre enc C.prog fn conds apart (w.forCall tape i).memory i.args ∧ X (w.forCall tape i).memory i.args) ∧ sizedMet enc C.prog fn (OpenSpec.ofChange s) apart (w.forCall tape i).memory i.args) ∧ a.holds C.prog (lone (Frame.enter C.prog f i.args .normal) [] (w.forCall tape i)))
    (contract : ∀ (W : World) (base : Nat) (args : Array Value) (ds gs : List (DataW H)) (before : List MemPlace),
      (∀ (j : Nat) t v, fn.params[j]? = some t → args[j]? = some v → Value.okWide C.prog W .any base t v) →
      DataW.Whole enc C.prog fn.params.toList s.vars apart W args.toList ds gs before →
      (DataW.weightsEach C.prog (fn.params.toList ++ (OpenSpec.ofChange s).bare.plain.varTypes C.prog) (ds ++ gs)).all (· ≤ reachBytes) = true →
      X W args → W.ShapedOpen C.prog →
      Calls C.prog f args W fun e W' => ∃ v, e = .returned v ∧ s.post enc C.prog fn apart fresh handsOn again W args v W') :
    ReturnsInHanded a C os f .any (fun w args => (s.pre enc C.prog fn conds apart w args ∧ X w args) ∧ sizedMet enc C.prog fn (OpenSpec.ofChange s) apart w args) (s.post enc C.prog fn apart fresh handsOn again) := by
  refine returnsInHanded_of_calls own started noInit witness ?_
  intro w tape i _ hsh _ hok hpre hholds
  obtain ⟨_, _, _, fn', hfn', _, _, _, _, hval⟩ := hok
  have e : fn' = fn := Option.some.inj (hfn'.symm.trans hfn)
  subst e
  obtain ⟨⟨⟨ds, gs, before, hw, hc⟩, hx⟩, hz⟩ := hpre
  have hw' := DataW.Whole.of_heap (w' := w.forCall tape i) (by rfl) hw
  refine (contract (w.forCall tape i) w.heap.size i.args ds gs before hval hw' (hz.weights hw) (hX _ _ _ (by rfl) hx) hsh).mono fun e W' ⟨v, he, hp⟩ => ?_
  subst he
  exact ChangeSpec.post_blind hp
/-- A law that says 'true' and leaves its arguments. -/
theorem law_sized {f : FuncId} (fn : Func) (s : ChangeSpec) (os : Os) (started : os.Started) (hf : Tryz.prog.funcs[f]? = some fn) (hp : plainFn fn = true) (noInit : Tryz.prog.inits.idxOf? f = none)
    (hv : s.vars = []) (hres : fn.resultTypes = #[4]) (hts : ∀ t ∈ fn.params.toList, Tryz.prog.readableRec t = true ∧ t < Tryz.prog.types.size)
    (hs : ∀ ds : List (DataW H), ds.length = fn.params.toList.length → s.fn H ds = { results := [.lit (.bool true)], args := ds })
    (witness : ∃ (w : World) (tape : Tape) (i : Input), w.os = os ∧ (w.forCall tape i).Shaped Tryz.checked.prog ∧ i.vars = [] ∧ Input.okWide Tryz.checked.prog (w.forCall tape i) .any w.heap.size f i ∧
      ((s.pre enc Tryz.checked.prog fn [] false (w.forCall tape i).memory i.args ∧ laidMetH Tryz.prog laid2 (w.forCall tape i).memory) ∧ sizedMet enc Tryz.checked.prog fn (OpenSpec.ofChange s) false (w.forCall tape i).memory i.args) ∧ ({} : Assume).holds Tryz.checked.prog (lone (Frame.enter Tryz.checked.prog f i.args .normal) [] (w.forCall tape i)))
    (hcon : ∀ (W : World) (base : Nat) (args : Array Value) (ds : List (DataW H)) (ps : List MemPlace), (∀ (j : Nat) t v, fn.params[j]? = some t → args[j]? = some v → Value.okWide Tryz.prog W .any base t v) →
      DataW.TrodAll enc Tryz.prog W 0 (fun _ => true) true fn.params.toList args.toList ds ps → (DataW.weightsEach Tryz.prog fn.params.toList ds).all (· ≤ reachBytes) = true → Lay W [] (fun i => ⟨i, 0, 0, 0⟩) →
      ∃ vs z g, Lay W z g ∧ COk Tryz.prog 3 f vs (GG z) (Bo true) (GG z) ∧ Rvs (GG z).length g vs args.toList) :
    ReturnsInHanded {} Tryz.checked os f .any (fun w args => (s.pre enc Tryz.prog fn [] false w args ∧ laidMetH Tryz.prog laid2 w) ∧ sizedMet enc Tryz.prog fn (OpenSpec.ofChange s) false w args) (s.post enc Tryz.prog fn false true false false) := by
  refine handed_sized (C := Tryz.checked) (X := fun w _ => laidMetH Tryz.prog laid2 w) (fun _ _ _ hh h => h.of_heap hh) own started noInit hf witness ?_
  intro W base args ds gs before hval hW hwt hL hsh
  have hW' := hW
  obtain ⟨p, q, hA, hV, rfl, hfz, hnd⟩ := hW
  rw [hv] at hV
  obtain ⟨rfl, rfl⟩ := trodVars_none hV
  have hvt : (OpenSpec.ofChange s).bare.plain.varTypes Tryz.prog = [] := by
    have : (OpenSpec.ofChange s).bare.plain.vars = [] := hv
    simp [DataSpec.varTypes, this]
  have hwt : (DataW.weightsEach Tryz.prog fn.params.toList ds).all (· ≤ reachBytes) = true := by
    have := hwt
    rw [List.append_nil] at this
    rwa [show (OpenSpec.ofChange s).bare.plain.varTypes Tryz.checked.prog = [] from hvt, List.append_nil] at this
  obtain ⟨vs, z, g, L, hc, hr⟩ := hcon W base args ds p hval hA hwt (lay0 hL hsh)
  have hlen := trodAll_len hA
  refine (calls_lay fn hf hp L hc hr).mono fun e W' ⟨he, hb⟩ => ⟨_, he, ?_⟩
  have hlt := hW'.lt
  refine ⟨ds, [], p ++ [], [], p, [], hW', ?_, ?_, ?_, hb.frame _, fun h => by cases h⟩
  · rw [hres, List.append_nil, hs ds hlen]
    exact trodAll_mk1 (shut_bool (by kernel_rfl) true)
  · rw [List.append_nil, hs ds hlen]
    exact trodAll_below laidOut hb hts hA (fun x hx => hlt x (by simpa using hx))
  · rw [hv, List.append_nil, hs ds hlen]
    rfl
end

/-- A float of 64 bits. -/
abbrev inF (b : Nat) : Prop := b < 18446744073709551616
theorem wf64 {b : Nat} (h : (Lit.float .f64 b).wf = true) : inF b := by
  simpa [Lit.wf] using h
/-- Floats that are read. -/
structure SlF (M : List Blk) (j o : Nat) (l : List Nat) : Prop where
  rd : ∀ i, i < l.length → ∀ K : V → Prop, K (F (l.getD i 0)) → rd1 (getB M j).b (o + i) K
  live : (getB M j).b.live = true
  wf : ∀ i, i < l.length → inF (l.getD i 0)
  short : l.length < 4611686018427387904
theorem SlF.app {M : List Blk} {j o : Nat} {l : List Nat} (h : SlF M j o l) (x : List Blk) : SlF (M ++ x) j o l := by
  have e : getB (M ++ x) j = getB M j := getB_in rfl h.live
  exact ⟨by rw [e]; exact h.rd, by rw [e]; exact h.live, h.wf, h.short⟩
theorem SlF.up {M M' : List Blk} {j o : Nat} {l : List Nat} (h : SlF M j o l) (u : Up M M') : SlF M' j o l := by
  obtain ⟨x, rfl⟩ := u.ex; exact h.app x
theorem SlF.lt {M : List Blk} {j o : Nat} {l : List Nat} (h : SlF M j o l) : j < M.length := getB_lt rfl h.live
theorem SlF.at {M : List Blk} {j o : Nat} {l : List Nat} (h : SlF M j o l) {i off : Nat} {K : V → Prop} (hi : i < l.length) (ho : off = o + i * 1) (hk : K (F (l.getD i 0))) : rd1 (getB M j).b off K := by
  rw [Nat.mul_one] at ho; subst ho; exact h.rd i hi K hk
theorem SlF.flts {M : List Blk} {j o : Nat} {w : Bool} {L l : List Nat} (h : getB M j = ⟨w, .flts L⟩) (hl : ∀ i, i < l.length → o + i < L.length ∧ L.getD (o + i) 0 = l.getD i 0) (hw : ∀ i, i < l.length → inF (l.getD i 0)) (hs : l.length < 4611686018427387904) : SlF M j o l :=
  ⟨fun i hi K hk => by
    rw [h]
    obtain ⟨h1, h2⟩ := hl i hi
    show br (Nat.blt (o + i) L.length) (K (.fl (some (L.getD (o + i) 0)))) False
    rw [show Nat.blt (o + i) L.length = true by simpa [Nat.blt_eq] using h1, h2]
    exact hk, by rw [h]; rfl, hw, hs⟩
def SliF (M : List Blk) (v : V) (l : List Nat) : Prop := (v = .raw (.slice none 0 0) ∧ l = []) ∨ ∃ j o, v = .sl j o l.length ∧ SlF M j o l
theorem SliF.app {M : List Blk} {v : V} {l : List Nat} (h : SliF M v l) (x : List Blk) : SliF (M ++ x) v l := by
  rcases h with h | ⟨j, o, h1, h2⟩
  · exact .inl h
  · exact .inr ⟨j, o, h1, h2.app x⟩
theorem SliF.up {M M' : List Blk} {v : V} {l : List Nat} (h : SliF M v l) (u : Up M M') : SliF M' v l := by
  obtain ⟨x, rfl⟩ := u.ex; exact h.app x
theorem SliF.wf {M : List Blk} {v : V} {l : List Nat} (h : SliF M v l) : (∀ i, i < l.length → inF (l.getD i 0)) ∧ l.length < 4611686018427387904 := by
  rcases h with ⟨_, rfl⟩ | ⟨j, o, _, h⟩
  · exact ⟨fun i hi => absurd hi (Nat.not_lt_zero i), by decide⟩
  · exact ⟨h.wf, h.short⟩
theorem SliF.of {M : List Blk} {j o : Nat} {l : List Nat} (h : SlF M j o l) : SliF M (.sl j o l.length) l := .inr ⟨j, o, rfl, h⟩
section
variable {H : Type} {enc : TypeId × Value → H} {P : Program} {w : World} {base : Nat} {spare : Nat → Bool} {held : Bool}
def flits (l : List Nat) : List (DataW H) := l.map fun b => .lit (.float .f64 b)
def bitsOf (y : DataW H × List MemPlace) : Nat := match y.1 with
  | .lit (.float _ b) => b
  | _ => 0
theorem trod_float {t : TypeId} {fuel : Nat} {cs : List Value} {x : DataW H × List MemPlace} (ht : P.underlying t = some (.float .f64)) (h : DataW.trod enc P w base spare held fuel t cs = some x) : ∃ b, cs = [.float .f64 b] ∧ x = (.lit (.float .f64 b), []) ∧ (Lit.float .f64 b).wf = true := by
  cases fuel with
  | zero => simp [DataW.trod] at h
  | succ n =>
    unfold DataW.trod at h
    rw [ht] at h
    split at h <;> simp_all
end
section
variable {H : Type} {enc : TypeId × Value → H}
end

/-- A sea's lists, each in a block of its own. -/
structure SeaB (M : List Blk) (w : Bool) (j0 j1 j2 j3 : Nat) (bed : List Nat) (water tracer : List Int) (speed : List Nat) : Prop where
  b0 : getB M j0 = ⟨w, .flts bed⟩
  b1 : getB M j1 = ⟨w, .ints .i64 water⟩
  b2 : getB M j2 = ⟨w, .ints .i64 tracer⟩
  b3 : getB M j3 = ⟨w, .flts speed⟩
  f0 : ∀ i, i < bed.length → inF (bed.getD i 0)
  f1 : ∀ i, i < water.length → in64 (water.getD i 0)
  f2 : ∀ i, i < tracer.length → in64 (tracer.getD i 0)
  f3 : ∀ i, i < speed.length → inF (speed.getD i 0)
  l0 : bed.length ≤ 17592186044416
  l1 : water.length ≤ 17592186044416
  l2 : tracer.length ≤ 17592186044416
  l3 : speed.length ≤ 17592186044416
/-- A sea's lists that are read. -/
structure SeaR (M : List Blk) (j0 j1 j2 j3 : Nat) (bed : List Nat) (water tracer : List Int) (speed : List Nat) : Prop where
  s0 : SlF M j0 0 bed
  s1 : SlI M j1 0 water
  s2 : SlI M j2 0 tracer
  s3 : SlF M j3 0 speed
section
variable {M M' : List Blk} {w : Bool} {j0 j1 j2 j3 : Nat} {bed : List Nat} {water tracer : List Int} {speed : List Nat}
theorem SeaB.app (h : SeaB M w j0 j1 j2 j3 bed water tracer speed) (x : List Blk) : SeaB (M ++ x) w j0 j1 j2 j3 bed water tracer speed :=
  ⟨getB_in h.b0 rfl, getB_in h.b1 rfl, getB_in h.b2 rfl, getB_in h.b3 rfl, h.f0, h.f1, h.f2, h.f3, h.l0, h.l1, h.l2, h.l3⟩
theorem SeaB.up (h : SeaB M w j0 j1 j2 j3 bed water tracer speed) (u : Up M M') : SeaB M' w j0 j1 j2 j3 bed water tracer speed := by
  obtain ⟨x, rfl⟩ := u.ex; exact h.app x
theorem SeaR.app (h : SeaR M j0 j1 j2 j3 bed water tracer speed) (x : List Blk) : SeaR (M ++ x) j0 j1 j2 j3 bed water tracer speed :=
  ⟨h.s0.app x, h.s1.app x, h.s2.app x, h.s3.app x⟩
theorem SeaR.up (h : SeaR M j0 j1 j2 j3 bed water tracer speed) (u : Up M M') : SeaR M' j0 j1 j2 j3 bed water tracer speed := by
  obtain ⟨x, rfl⟩ := u.ex; exact h.app x
theorem SlF.whole {j : Nat} {l : List Nat} (h : getB M j = ⟨w, .flts l⟩) (hw : ∀ i, i < l.length → inF (l.getD i 0)) (hs : l.length ≤ 17592186044416) : SlF M j 0 l :=
  SlF.flts h (fun i hi => ⟨by omega, by rw [Nat.zero_add]⟩) hw (by omega)
theorem SlI.whole {j : Nat} {l : List Int} (h : getB M j = ⟨w, .ints .i64 l⟩) (hw : ∀ i, i < l.length → in64 (l.getD i 0)) (hs : l.length ≤ 17592186044416) : SlI M j 0 l :=
  SlI.ints h (fun i hi => ⟨by omega, by rw [Nat.zero_add]⟩) hw (by omega)
theorem SeaB.read (h : SeaB M w j0 j1 j2 j3 bed water tracer speed) : SeaR M j0 j1 j2 j3 bed water tracer speed :=
  ⟨SlF.whole h.b0 h.f0 h.l0, SlI.whole h.b1 h.f1 h.l1, SlI.whole h.b2 h.f2 h.l2, SlF.whole h.b3 h.f3 h.l3⟩
end
/-- A sea by its lists' blocks and lengths. -/
abbrev seaV (j0 j1 j2 j3 a b c d : Nat) (sky step : Int) : V := .agg [.sl j0 0 a, .sl j1 0 b, .sl j2 0 c, .sl j3 0 d, .int .i64 sky, I step]
section
variable {H : Type} {enc : TypeId × Value → H}
/-- A struct whose fields take one cell each, by its cells. -/
theorem open_cells {W : World} {t : TypeId} {fs : Array Field} {ts : List (TypeId × Nat)} {base fuel : Nat} {sp : Nat → Bool} {held : Bool} {l : List Value} {d : DataW H} {ps : List MemPlace} (hu : Tryz.prog.underlying t = some (.struct fs)) (hts : fs.toList.map (fun f => (f.type, f.offset)) = ts)
    (hc : Tryz.prog.cellsOf t = ts.length) (h1 : ∀ (i : Nat) (p : TypeId × Nat), ts[i]? = some p → p.2 = i ∧ Tryz.prog.cellsOf p.1 = 1) (h : DataW.trod enc Tryz.prog W base sp held fuel t l = some (d, ps)) :
    ∃ (ds : List (DataW H)), d = .agg ds ∧ l.length = ts.length ∧ ds.length = ts.length ∧ (d.weights Tryz.prog t = DataW.weightsEach Tryz.prog (ts.map (·.1)) ds) ∧
      ∀ (i : Nat) (p : TypeId × Nat), ts[i]? = some p → ∃ x e fuel q, l[i]? = some x ∧ ds[i]? = some e ∧ DataW.trod enc Tryz.prog W base sp held fuel p.1 [x] = some (e, q) := by
  obtain ⟨xs, n, rfl, hx, hlen, hn, hel⟩ := DataW.trod_struct hu h
  have hd : d = .agg (xs.map (·.1)) := congrArg Prod.fst hx
  have hl : l.length = ts.length := by rw [← hc]; exact hlen
  have hfl : fs.size = ts.length := by
    have := congrArg List.length hts
    simpa using this
  refine ⟨xs.map (·.1), hd, hl, by rw [List.length_map, hn, hfl], ?_, fun i p hp => ?_⟩
  · rw [hd]
    unfold DataW.weights
    rw [hu]
    simp only
    congr 1
    rw [← hts, List.map_map]
    rfl
  · obtain ⟨e1, e2⟩ := h1 i p hp
    have hi : i < ts.length := (List.getElem?_eq_some_iff.1 hp).1
    have hf : ∃ f, fs[i]? = some f ∧ (f.type, f.offset) = p := by
      rw [← hts, List.getElem?_map] at hp
      obtain ⟨f, hf, he⟩ := Option.map_eq_some_iff.1 hp
      exact ⟨f, by rw [← Array.getElem?_toList]; exact hf, he⟩
    obtain ⟨f, hf, he⟩ := hf
    have h3 := hel i f hf
    have et : f.type = p.1 := by rw [← he]
    have eo : f.offset = i := by rw [← e1, ← he]
    rw [et, eo, e2] at h3
    have h4 : i < xs.length := by omega
    rw [List.getElem?_eq_getElem h4] at h3
    have hli : i < l.length := by omega
    have htk : (l.drop i).take 1 = [l[i]] := by
      rw [List.drop_eq_getElem_cons hli]; rfl
    rw [htk] at h3
    exact ⟨l[i], xs[i].1, n, xs[i].2, List.getElem?_eq_getElem hli, by rw [List.getElem?_map, List.getElem?_eq_getElem h4]; rfl, h3⟩
end

section
variable {H : Type} {enc : TypeId × Value → H} {P : Program} {w : World} {base : Nat} {spare : Nat → Bool} {held : Bool}
theorem seven_of {α : Type} {l : List α} (h : l.length = 7) : ∃ a b c d e f g, l = [a, b, c, d, e, f, g] := by
  match l, h with
  | [a, b, c, d, e, f, g], _ => exact ⟨a, b, c, d, e, f, g, rfl⟩
theorem under_plan : ∃ fs, Tryz.prog.underlying 54 = some (.struct fs) ∧ fs.toList.map (fun f => (f.type, f.offset)) = [(3, 0), (51, 1), (51, 2), (51, 3), (3, 4), (4, 5), (52, 6)] := ⟨_, rfl, rfl⟩
end
end Go.Proofs.YtgoljofmbidkfaaGreatDoor
/- Lists that are compared and copied. No condition. -/
namespace Go.Proofs.YtgoljofmbidkfaaGreatDoor
open Go Go.Eng
set_option maxRecDepth 100000
set_option linter.unusedSimpArgs false
set_option linter.unusedVariables false

end Go.Proofs.YtgoljofmbidkfaaGreatDoor
/- A plan with its rains among a law's arguments. No condition. -/
namespace Go.Proofs.YtgoljofmbidkfaaGreatDoor
open Go Go.Eng Go.ChangeShapes Go.WideShapes Go.RowKit
set_option maxRecDepth 100000
set_option linter.unusedSimpArgs false
set_option linter.unusedVariables false

theorem list_ofI {P : Nat → Int → Prop} : ∀ n : Nat, (∀ k, k < n → ∃ b, P k b) → ∃ l : List Int, l.length = n ∧ ∀ k, k < n → P k (l.getD k 0)
  | 0, _ => ⟨[], rfl, fun k hk => absurd hk (Nat.not_lt_zero k)⟩
  | n + 1, h => by
    obtain ⟨l, hl, hp⟩ := list_ofI n (fun k hk => h k (by omega))
    obtain ⟨b, hb⟩ := h n (Nat.lt_succ_self n)
    refine ⟨l ++ [b], by simp [hl], fun k hk => ?_⟩
    rcases Nat.lt_or_ge k n with h1 | h1
    · have e : (l ++ [b]).getD k 0 = l.getD k 0 := by
        rw [List.getD_eq_getElem?_getD, List.getElem?_append_left (by omega), ← List.getD_eq_getElem?_getD]
      rw [e]; exact hp k h1
    · obtain rfl : k = n := by omega
      have e : (l ++ [b]).getD k 0 = b := by
        rw [List.getD_eq_getElem?_getD, List.getElem?_append_right (by omega), hl, Nat.sub_self]; rfl
      rw [e]; exact hb
section
variable {H : Type} {enc : TypeId × Value → H}
theorem under_rain : ∃ fs, Tryz.prog.underlying 111 = some (.struct fs) ∧ fs.toList.map (fun f => (f.type, f.offset)) = [(3, 0), (2, 1), (3, 2), (3, 3)] := ⟨_, rfl, rfl⟩
theorem four_ofL {α : Type} {l : List α} (h : l.length = 4) : ∃ a b c d, l = [a, b, c, d] := by
  match l, h with
  | [a, b, c, d], _ => exact ⟨a, b, c, d, rfl⟩
theorem open_rain {W : World} {base : Nat} {fuel : Nat} {cs : List Value} {d : DataW H} {ps : List MemPlace} {sp : Nat → Bool} {held : Bool} (hr : DataW.trod enc Tryz.prog W base sp held fuel 111 cs = some (d, ps)) :
    ∃ a b c e, cs = [.int .i64 a, .int .i64 b, .int .i64 c, .int .i64 e] ∧ in64 a ∧ in64 b ∧ in64 c ∧ in64 e := by
  obtain ⟨fs, hu, hts⟩ := under_rain
  have ones : ∀ (i : Nat) (p : TypeId × Nat), [(3, 0), (2, 1), (3, 2), (3, 3)][i]? = some p → p.2 = i ∧ Tryz.prog.cellsOf p.1 = 1 := by
    intro i p hp
    match i, hp with
    | 0, hp => injection hp with hp; subst hp; exact ⟨rfl, by kernel_rfl⟩
    | 1, hp => injection hp with hp; subst hp; exact ⟨rfl, by kernel_rfl⟩
    | 2, hp => injection hp with hp; subst hp; exact ⟨rfl, by kernel_rfl⟩
    | 3, hp => injection hp with hp; subst hp; exact ⟨rfl, by kernel_rfl⟩
  have u3 : Tryz.prog.underlying 3 = some (.int .i64) := by kernel_rfl
  have u2 : Tryz.prog.underlying 2 = some (.int .i64) := by kernel_rfl
  obtain ⟨ds, rfl, hl, hd, hw, ex⟩ := open_cells hu hts (by kernel_rfl) ones hr
  obtain ⟨c0, c1, c2, c3, rfl⟩ := four_ofL hl
  obtain ⟨_, _, _, _, a0, _, t0⟩ := ex 0 _ rfl
  obtain ⟨_, _, _, _, a1, _, t1⟩ := ex 1 _ rfl
  obtain ⟨_, _, _, _, a2, _, t2⟩ := ex 2 _ rfl
  obtain ⟨_, _, _, _, a3, _, t3⟩ := ex 3 _ rfl
  injection a0 with a0; injection a1 with a1; injection a2 with a2; injection a3 with a3
  subst a0 a1 a2 a3
  obtain ⟨x0, q0, _, m0⟩ := DataW.trod_int u3 t0
  obtain ⟨x1, q1, _, m1⟩ := DataW.trod_int u2 t1
  obtain ⟨x2, q2, _, m2⟩ := DataW.trod_int u3 t2
  obtain ⟨x3, q3, _, m3⟩ := DataW.trod_int u3 t3
  injection q0 with q0; injection q1 with q1; injection q2 with q2; injection q3 with q3
  subst q0 q1 q2 q3
  exact ⟨x0, x1, x2, x3, rfl, in64_wf m0, in64_wf m1, in64_wf m2, in64_wf m3⟩
theorem lay_rains {W : World} {z : List Blk} {g : Nat → Pl} (h : Lay W z g) {t : TypeId} {fuel : Nat} {x : Value} {d : DataW H} {ps : List MemPlace} {sp : Nat → Bool} {held : Bool} (ht : Tryz.prog.underlying t = some (.slice 111))
    (hr : DataW.trod enc Tryz.prog W 0 sp held fuel t [x] = some (d, ps)) (hsz : (d.weights Tryz.prog t).all (· ≤ reachBytes) = true) :
    ∃ l n g', Lay W (z ++ [⟨false, .ints .i64 l⟩]) g' ∧ (∀ i, i < (GG z).length → g' i = g i) ∧ Rv (GG (z ++ [⟨false, .ints .i64 l⟩])).length g' (.sl (GG z).length 0 n) x ∧ (∀ i, i < l.length → in64 (l.getD i 0)) ∧ l.length = 4 * n ∧ n ≤ 17592186044416 := by
  have hlen := h.len
  have hc : Tryz.prog.cellsOf 111 = 4 := by kernel_rfl
  have hb : Tryz.prog.bytesOf 111 = 32 := by kernel_rfl
  have hnil : ∀ (b : Blk) , b = ⟨false, .ints .i64 []⟩ → RepB ((GG z).length + 1) (newAtP g (GG z).length ⟨0, 0, 0, 0⟩) W ⟨0, 0, 0, 0⟩ b := fun b hb => by
    subst hb
    exact ⟨hlen, (fun j v hv => by simp [B.get] at hv), (fun h => nomatch h), (fun _ j hj => absurd hj (Nat.not_lt_zero j)), (fun f hf => nomatch hf), rfl⟩
  rcases DataW.trod_slice ht hr with ⟨h1, h2⟩ | ⟨a, len, cap, elems, rest, fu, _, h1, hx, _, hlc, hm, hel, hels, _, _⟩
  · injection h1 with h1
    exact ⟨[], 0, _, h.snoc _ ⟨0, 0, 0, 0⟩ rfl (hnil _ rfl) rfl, newAtP_old g _ _, ⟨by simp, by simp [newAtP], none, 0, h1, Nat.le_refl _, fun h => absurd h (Nat.lt_irrefl 0)⟩, fun i hi => absurd hi (Nat.not_lt_zero i), rfl, Nat.zero_le _⟩
  · injection h1 with h1
    have hd : d = .slice (elems.map (·.1)) (rest.map (·.1)) := congrArg Prod.fst hx
    have hle : len ≤ 17592186044416 := by
      rw [hd] at hsz
      unfold DataW.weights at hsz
      rw [ht] at hsz
      simp only [List.all_cons, Bool.and_eq_true, decide_eq_true_eq, hb, List.length_map, hel] at hsz
      have : reachBytes = 140737488351232 := rfl
      omega
    rcases Nat.eq_zero_or_pos len with rfl | hpos
    · exact ⟨[], 0, _, h.snoc _ ⟨0, 0, 0, 0⟩ rfl (hnil _ rfl) rfl, newAtP_old g _ _, ⟨by simp, by simp [newAtP], some a, cap, h1, hlc, fun h => absurd h (Nat.lt_irrefl 0)⟩, fun i hi => absurd hi (Nat.not_lt_zero i), rfl, Nat.zero_le _⟩
    · have one : ∀ i, i < len → ∃ cs, W.cells? 0 (a.add (i * 4)) 4 = some cs ∧ ∃ a b c e, cs = [.int .i64 a, .int .i64 b, .int .i64 c, .int .i64 e] ∧ in64 a ∧ in64 b ∧ in64 c ∧ in64 e := by
        intro i hi
        have h3 := hels i hi
        rw [hc, List.getElem?_eq_getElem (by omega), Option.bind_eq_some_iff] at h3
        obtain ⟨cs, h4, h5⟩ := h3
        exact ⟨cs, h4, open_rain (d := (elems[i]'(by omega)).1) (ps := (elems[i]'(by omega)).2) h5⟩
      have hspot : a.spot = none := by
        obtain ⟨cs, h4, x0, x1, x2, x3, rfl, _⟩ := one 0 hpos
        have h0 := (World.cells?_some h4).2.2 0 (by decide)
        unfold World.cell? at h0
        have : (a.add (0 * 4)).add 0 = a := rfl
        rw [this] at h0
        split at h0
        · split at h0
          · exact absurd h0 (by simp)
          · rename_i hs; simpa using hs
        · exact absurd h0 (by simp)
      obtain ⟨ab, ao, asp⟩ := a
      simp only at hspot
      subst hspot
      have hadd : ∀ o i, (Addr.mk ab o none).add i = ⟨ab, o + i, none⟩ := by
        intro o i; unfold Addr.add
        split
        · rename_i h; subst h; rfl
        · rfl
      have each : ∀ k, k < 4 * len → ∃ b, W.cell? ⟨ab, ao + k, none⟩ = some (.int .i64 b) ∧ in64 b := by
        intro k hk
        obtain ⟨cs, h4, x0, x1, x2, x3, rfl, i0, i1, i2, i3⟩ := one (k / 4) (by omega)
        have h0 := (World.cells?_some h4).2.2 (k % 4) (by omega)
        rw [hadd, hadd, show ao + k / 4 * 4 + k % 4 = ao + k by omega] at h0
        have hm : k % 4 < 4 := Nat.mod_lt _ (by decide)
        generalize k % 4 = m at *
        match m, hm with
        | 0, _ => exact ⟨x0, h0, i0⟩
        | 1, _ => exact ⟨x1, h0, i1⟩
        | 2, _ => exact ⟨x2, h0, i2⟩
        | 3, _ => exact ⟨x3, h0, i3⟩
      obtain ⟨l, hl, hp⟩ := list_ofI (4 * len) each
      have hsize : ab < W.heap.size := by
        have h0 := (hp 0 (by omega)).1
        unfold World.cell? at h0
        simp only at h0
        split at h0
        · rename_i he; exact (Array.getElem?_eq_some_iff.1 he).1
        · exact absurd h0 (by simp)
      refine ⟨l, len, _, h.snoc _ ⟨ab, ao, 0, 0⟩ rfl ?_ rfl, newAtP_old g _ _, ?_, fun i hi => (hp i (by omega)).2, hl, hle⟩
      · refine ⟨hsize, fun j v hv => ?_, (fun h => nomatch h), (fun _ j hj => absurd hj (Nat.not_lt_zero j)), (fun f hf => nomatch hf), rfl⟩
        have hv : (l[j]?).map (V.int .i64) = some v := hv
        obtain ⟨y, hy, rfl⟩ := Option.map_eq_some_iff.1 hv
        have hj := (List.getElem?_eq_some_iff.1 hy).1
        refine ⟨.int .i64 y, ?_, rfl⟩
        have := (hp j (by omega)).1
        show W.cell? ⟨ab, ao + j, none⟩ = _
        rw [this, List.getD_eq_getElem?_getD, hy]; rfl
      · refine ⟨by simp, by simp [newAtP], some ⟨ab, ao, none⟩, cap, h1, by omega, fun _ => by simp [newAtP]⟩
/-- The numbers of a list of rains. -/
structure RainB (M : List Blk) (j : Nat) (l : List Int) (n : Nat) : Prop where
  b : getB M j = ⟨false, .ints .i64 l⟩
  f : ∀ i, i < l.length → in64 (l.getD i 0)
  l : l.length = 4 * n
  s : n ≤ 17592186044416
theorem lay_plan {W : World} {z : List Blk} {g : Nat → Pl} (h : Lay W z g) {fuel : Nat} {cs : List Value} {d : DataW H} {ps : List MemPlace} {sp : Nat → Bool} {held : Bool} (hr : DataW.trod enc Tryz.prog W 0 sp held fuel 54 cs = some (d, ps)) (hsz : (d.weights Tryz.prog 54).all (· ≤ reachBytes) = true) :
    ∃ side dt gr dr lim riv l n g', Lay W (z ++ [⟨false, .ints .i64 l⟩]) g' ∧ (∀ i, i < (GG z).length → g' i = g i) ∧ Rvs (GG (z ++ [⟨false, .ints .i64 l⟩])).length g' [I side, F dt, F gr, F dr, I lim, Bo riv, .sl (GG z).length 0 n] cs ∧ RainB (GG (z ++ [⟨false, .ints .i64 l⟩])) (GG z).length l n ∧ in64 side ∧ inF dt ∧ inF gr ∧ inF dr ∧ in64 lim := by
  obtain ⟨fs, hu, hts⟩ := under_plan
  have ones : ∀ (i : Nat) (p : TypeId × Nat), [(3, 0), (51, 1), (51, 2), (51, 3), (3, 4), (4, 5), (52, 6)][i]? = some p → p.2 = i ∧ Tryz.prog.cellsOf p.1 = 1 := by
    intro i p hp
    match i, hp with
    | 0, hp => injection hp with hp; subst hp; exact ⟨rfl, by kernel_rfl⟩
    | 1, hp => injection hp with hp; subst hp; exact ⟨rfl, by kernel_rfl⟩
    | 2, hp => injection hp with hp; subst hp; exact ⟨rfl, by kernel_rfl⟩
    | 3, hp => injection hp with hp; subst hp; exact ⟨rfl, by kernel_rfl⟩
    | 4, hp => injection hp with hp; subst hp; exact ⟨rfl, by kernel_rfl⟩
    | 5, hp => injection hp with hp; subst hp; exact ⟨rfl, by kernel_rfl⟩
    | 6, hp => injection hp with hp; subst hp; exact ⟨rfl, by kernel_rfl⟩
  have uE : Tryz.prog.underlying 51 = some (.float .f64) := by kernel_rfl
  have u3 : Tryz.prog.underlying 3 = some (.int .i64) := by kernel_rfl
  have u4 : Tryz.prog.underlying 4 = some .bool := by kernel_rfl
  have uR : Tryz.prog.underlying 52 = some (.slice 111) := by kernel_rfl
  obtain ⟨ds, rfl, hl, hd, hw, ex⟩ := open_cells hu hts (by kernel_rfl) ones hr
  obtain ⟨c0, c1, c2, c3, c4, c5, c6, rfl⟩ := seven_of hl
  obtain ⟨y0, y1, y2, y3, y4, y5, y6, rfl⟩ := seven_of hd
  rw [hw] at hsz
  simp only [List.map_cons, List.map_nil, DataW.weightsEach, List.all_append, Bool.and_eq_true] at hsz
  obtain ⟨w0, w1, w2, w3, w4, w5, w6, _⟩ := hsz
  obtain ⟨_, _, _, _, a0, d0, t0⟩ := ex 0 _ rfl
  obtain ⟨_, _, _, _, a1, d1, t1⟩ := ex 1 _ rfl
  obtain ⟨_, _, _, _, a2, d2, t2⟩ := ex 2 _ rfl
  obtain ⟨_, _, _, _, a3, d3, t3⟩ := ex 3 _ rfl
  obtain ⟨_, _, _, _, a4, d4, t4⟩ := ex 4 _ rfl
  obtain ⟨_, _, _, _, a5, d5, t5⟩ := ex 5 _ rfl
  obtain ⟨_, _, _, _, a6, d6, t6⟩ := ex 6 _ rfl
  injection a0 with a0; injection a1 with a1; injection a2 with a2; injection a3 with a3; injection a4 with a4; injection a5 with a5; injection a6 with a6
  injection d0 with d0; injection d1 with d1; injection d2 with d2; injection d3 with d3; injection d4 with d4; injection d5 with d5; injection d6 with d6
  subst a0 a1 a2 a3 a4 a5 a6 d0 d1 d2 d3 d4 d5 d6
  obtain ⟨x0, q0, _, m0⟩ := DataW.trod_int u3 t0
  obtain ⟨x1, q1, _, m1⟩ := trod_float uE t1
  obtain ⟨x2, q2, _, m2⟩ := trod_float uE t2
  obtain ⟨x3, q3, _, m3⟩ := trod_float uE t3
  obtain ⟨x4, q4, _, m4⟩ := DataW.trod_int u3 t4
  obtain ⟨x5, q5, _⟩ := DataW.trod_bool u4 t5
  obtain ⟨l, n, g', L1, e1, r1, f1, l1, s1⟩ := lay_rains h uR t6 w6
  injection q0 with q0; injection q1 with q1; injection q2 with q2; injection q3 with q3; injection q4 with q4; injection q5 with q5
  subst q0 q1 q2 q3 q4 q5
  exact ⟨x0, x1, x2, x3, x4, x5, l, n, g', L1, e1, ⟨_, _, rfl, rfl, _, _, rfl, ⟨_, rfl, rfl⟩, _, _, rfl, ⟨_, rfl, rfl⟩, _, _, rfl, ⟨_, rfl, rfl⟩, _, _, rfl, rfl, _, _, rfl, rfl, _, _, rfl, r1, rfl⟩, ⟨getB_app0 (M := GG z), f1, l1, s1⟩, in64_wf m0, wf64 m1, wf64 m2, wf64 m3, in64_wf m4⟩
end
end Go.Proofs.YtgoljofmbidkfaaGreatDoor
