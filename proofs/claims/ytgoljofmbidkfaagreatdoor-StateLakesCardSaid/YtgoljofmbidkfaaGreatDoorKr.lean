import Derived.Test.YtgoljofmbidkfaaGreatDoorF
import Derived.Test.YtgoljofmbidkfaaGreatDoorRows
import Derived.ProofKit
import Derived.LaidMore
import Derived.OpenShut
import Derived.Stop.Joined
import Derived.Lib.LaidU8
import Derived.MakeChecks
import Derived.Below
import Derived.Carry
import Derived.Test.YtgoljofmbidkfaaGreatDoorLv
import Derived.ChangeSlices
import Derived.JoinedCond
import Derived.Laws.Cover2
import Derived.Test.YtgoljofmbidkfaaGreatDoorZa
/- The bridge from a contract to a row: the listed tables as abstract memory; the wrap with the world's shape. No condition. -/
namespace Go.Proofs.YtgoljofmbidkfaaGreatDoor
open Go Go.Eng Go.ChangeShapes Go.WideShapes Go.RowKit
set_option maxRecDepth 100000
set_option linter.unusedSimpArgs false
set_option linter.unusedVariables false

section
variable {H : Type} {enc : TypeId × Value → H} {P : Program} {w : World} {base : Nat} {sp : Nat → Bool} {held : Bool}
/-- An array, of whose elements one knows how they read. -/
theorem trod_level {α : Type} {t e : TypeId} {n : Nat} (f : α → List Value) (D : α → DataW H)
    (hE : ∀ fuel cs d p, DataW.trod enc P w base sp held fuel e cs = some (d, p) → ∃ a, cs = f a ∧ d = D a) (ht : P.underlying t = some (.array n e)) (hl : P.cellsOf t = n * P.cellsOf e) :
    ∀ fuel cs d p, DataW.trod enc P w base sp held fuel t cs = some (d, p) → ∃ zs : List α, cs = zs.flatMap f ∧ d = .agg (zs.map D) := by
  intro fuel cs d p h
  obtain ⟨xs, m, rfl, hx, hlen, hn, hel⟩ := DataW.trod_array ht h
  rw [hl] at hlen
  have key : ∀ (n : Nat) (cs : List Value) (xs : List (DataW H × List MemPlace)), cs.length = n * P.cellsOf e → xs.length = n →
      (∀ i, i < n → DataW.trod enc P w base sp held m e ((cs.drop (i * P.cellsOf e)).take (P.cellsOf e)) = xs[i]?) → ∃ zs : List α, cs = zs.flatMap f ∧ xs.map (·.1) = zs.map D := by
    intro n
    induction n with
    | zero =>
      intro cs xs h1 h2 _
      obtain rfl : cs = [] := List.eq_nil_of_length_eq_zero (by omega)
      obtain rfl : xs = [] := List.eq_nil_of_length_eq_zero h2
      exact ⟨[], rfl, rfl⟩
    | succ n ih =>
      intro cs xs h1 h2 h3
      match xs, h2 with
      | x :: xs, h2 =>
        have h0 := h3 0 (by omega)
        simp only [Nat.zero_mul, List.drop_zero, List.getElem?_cons_zero] at h0
        obtain ⟨a, ha, hd⟩ := hE m _ x.1 x.2 h0
        obtain ⟨zs, k1, k2⟩ := ih (cs.drop (P.cellsOf e)) xs (by rw [List.length_drop, h1, Nat.add_mul]; omega) (by simpa using h2) (fun i hi => by
          have := h3 (i + 1) (by omega)
          rw [List.drop_drop]
          rw [List.getElem?_cons_succ] at this
          rw [← this, Nat.add_mul, Nat.one_mul, Nat.add_comm])
        refine ⟨a :: zs, ?_, ?_⟩
        · rw [List.flatMap_cons, ← ha, ← k1, List.take_append_drop]
        · simp [hd, k2]
  obtain ⟨zs, k1, k2⟩ := key n cs xs hlen hn hel
  refine ⟨zs, k1, ?_⟩
  simp only [Prod.mk.injEq] at hx
  rw [hx.1, k2]
end
theorem map_inj {α β : Type} {f : α → β} (hf : ∀ a b, f a = f b → a = b) : ∀ l l' : List α, l.map f = l'.map f → l = l'
  | [], [], _ => rfl
  | a :: l, b :: l', h => by
    simp only [List.map_cons, List.cons.injEq] at h
    rw [hf _ _ h.1, map_inj hf l l' h.2]
abbrev D0 (z : Int) : DataW Unit := .lit (.int .i64 z)
abbrev D1 (l : List Int) : DataW Unit := .agg (l.map D0)
abbrev D2 (l : List (List Int)) : DataW Unit := .agg (l.map D1)
abbrev D3 (l : List (List (List Int))) : DataW Unit := .agg (l.map D2)
theorem D0_inj (a b : Int) (h : D0 a = D0 b) : a = b := by injection h with h; injection h
theorem D1_inj (a b : List Int) (h : D1 a = D1 b) : a = b := by injection h with h; exact map_inj D0_inj _ _ h
theorem D2_inj (a b : List (List Int)) (h : D2 a = D2 b) : a = b := by injection h with h; exact map_inj D1_inj _ _ h
theorem D3_inj (a b : List (List (List Int))) (h : D3 a = D3 b) : a = b := by injection h with h; exact map_inj D2_inj _ _ h
def cube3 : List (List (List Int)) := [[[1,0,0],[0,1,0],[0,0,1]],[[0,1,0],[-1,0,0],[0,0,1]],[[-1,0,0],[0,-1,0],[0,0,1]],[[0,-1,0],[1,0,0],[0,0,1]],[[0,0,1],[0,1,0],[-1,0,0]],[[0,0,-1],[0,1,0],[1,0,0]]]
def cells0 (z : Int) : List Value := [.int .i64 z]
def cells1 (l : List Int) : List Value := l.flatMap cells0
def cells2 (l : List (List Int)) : List Value := l.flatMap cells1
def cells3 (l : List (List (List Int))) : List Value := l.flatMap cells2
theorem cells_cube : cells3 cube3 = cubeL.map (Value.int .i64) := rfl
section
variable {w : World} {base : Nat} {sp : Nat → Bool} {held : Bool}
theorem read0 (fuel : Nat) (cs : List Value) (d : DataW Unit) (p : List MemPlace) (h : DataW.trod (fun _ => ()) Tryz.prog w base sp held fuel 3 cs = some (d, p)) : ∃ z, cs = cells0 z ∧ d = D0 z := by
  obtain ⟨n, h1, h2, _⟩ := DataW.trod_int (show Tryz.prog.underlying 3 = some (.int .i64) by kernel_rfl) h
  injection h2 with h2
  exact ⟨n, h1, h2⟩
/-- An array [6][3][3]int, whatever its types' names. -/
theorem read3 {t1 t2 t3 : TypeId} (u1 : Tryz.prog.underlying t1 = some (.array 3 3)) (u2 : Tryz.prog.underlying t2 = some (.array 3 t1)) (u3 : Tryz.prog.underlying t3 = some (.array 6 t2))
    (c1 : Tryz.prog.cellsOf t1 = 3 * Tryz.prog.cellsOf 3) (c2 : Tryz.prog.cellsOf t2 = 3 * Tryz.prog.cellsOf t1) (c3 : Tryz.prog.cellsOf t3 = 6 * Tryz.prog.cellsOf t2)
    (fuel : Nat) (cs : List Value) (d : DataW Unit) (p : List MemPlace) (h : DataW.trod (fun _ => ()) Tryz.prog w base sp held fuel t3 cs = some (d, p)) : ∃ zs, cs = cells3 zs ∧ d = D3 zs :=
  trod_level cells2 D2 (fun _ _ _ _ h => trod_level cells1 D1 (fun _ _ _ _ h => trod_level cells0 D0 read0 u1 c1 _ _ _ _ h) u2 c2 _ _ _ _ h) u3 c3 _ _ _ _ h
end
/-- What the condition gives: the two tables' cells. -/
theorem table_of {W : World} {n : String} {g : Nat} {t1 t2 t3 : TypeId} {d : DataW Unit} (hg : Tryz.prog.globalNamed n = some g) (ht : (Tryz.prog.globals[g]?).map (·.type) = some t3)
    (u1 : Tryz.prog.underlying t1 = some (.array 3 3)) (u2 : Tryz.prog.underlying t2 = some (.array 3 t1)) (u3 : Tryz.prog.underlying t3 = some (.array 6 t2))
    (c1 : Tryz.prog.cellsOf t1 = 3 * Tryz.prog.cellsOf 3) (c2 : Tryz.prog.cellsOf t2 = 3 * Tryz.prog.cellsOf t1) (c3 : Tryz.prog.cellsOf t3 = 6 * Tryz.prog.cellsOf t2)
    (hd : d = D3 cube3) (h : Lib.VarReads Tryz.prog W n d) (j : Nat) : W.cell? ⟨g, j, none⟩ = (cubeL.map (Value.int .i64))[j]? := by
  obtain ⟨g0, t0, cs0, f0, p0, hg0, ht0, hv0, hd0⟩ := h
  obtain rfl := Option.some.inj (hg.symm.trans hg0)
  obtain rfl := Option.some.inj (ht.symm.trans ht0)
  obtain ⟨zs, k1, k2⟩ := read3 u1 u2 u3 c1 c2 c3 f0 _ _ _ hd0
  rw [hd] at k2
  have := D3_inj _ _ k2
  subst this
  rw [World.var?_cell hg0 hv0 j, ← Array.getElem?_toList, k1, cells_cube]
theorem tables {W : World} (h : laidMetH Tryz.prog [("tarn/cube.frames", Rows.laid_tarn_cube_frames), ("tarn/geom.frames", Rows.laid_tarn_geom_frames)] W) :
    (∀ j, W.cell? ⟨0, j, none⟩ = (cubeL.map (Value.int .i64))[j]?) ∧ ∀ j, W.cell? ⟨2, j, none⟩ = (cubeL.map (Value.int .i64))[j]? := by
  rw [MakeChecks.laidMetH_plain _ _ _ (by kernel_rfl)] at h
  exact ⟨table_of (by kernel_rfl) (by kernel_rfl) (t1 := 125) (t2 := 127) (t3 := 133) (by kernel_rfl) (by kernel_rfl) (by kernel_rfl) (by kernel_rfl) (by kernel_rfl) (by kernel_rfl) rfl (Lib.laidMet.reads h (.head _)),
    table_of (by kernel_rfl) (by kernel_rfl) (t1 := 124) (t2 := 189) (t3 := 190) (by kernel_rfl) (by kernel_rfl) (by kernel_rfl) (by kernel_rfl) (by kernel_rfl) (by kernel_rfl) rfl (Lib.laidMet.reads h (.tail _ (.head _)))⟩
theorem size_of_shaped {W : World} (h : W.ShapedOpen Tryz.prog) : 2 < W.heap.size := by
  obtain ⟨h1, _⟩ := h
  have h2 : (((begin Tryz.prog (fun _ _ => 0) default).world.heap[2]?).bind Obj.row?).isSome = true := by kernel_rfl
  obtain ⟨⟨zero, t⟩, h3⟩ := Option.isSome_iff_exists.mp h2
  obtain ⟨cs, h4, _⟩ := h1 2 zero t (of_decide_eq_true (by kernel_rfl)) h3
  exact (Array.getElem?_eq_some_iff.mp h4).1
theorem repB_tab {n : Nat} {g : Nat → Pl} {w : World} {k : Nat} (hk : k < w.heap.size) (h : ∀ j, w.cell? ⟨k, j, none⟩ = (cubeL.map (Value.int .i64))[j]?) : RepB n g w ⟨k, 0, 0, 0⟩ Gcube where
  size := hk
  cell := fun j v hv => by
    have hv : (cubeL.map (V.int .i64))[j]? = some v := hv
    rw [List.getElem?_map] at hv
    cases hc : cubeL[j]? with
    | none => rw [hc] at hv; exact nomatch hv
    | some z =>
      rw [hc] at hv
      injection hv with hv
      subst hv
      refine ⟨.int .i64 z, ?_, rfl⟩
      show w.cell? ⟨k, 0 + j, none⟩ = _
      rw [Nat.zero_add, h j, List.getElem?_map, hc]
      rfl
  free := fun h => nomatch h
  room := fun _ j hj => absurd hj (Nat.not_lt_zero j)
  map := fun f hf => nomatch hf
  ver := rfl
theorem ro_of {i : Nat} {b : Blk} (h : (GG [])[i]? = some b) : b.w = false := roM_get (m := GG []) (by kernel_rfl) h
theorem rep_of {W : World} (h : laidMetH Tryz.prog [("tarn/cube.frames", Rows.laid_tarn_cube_frames), ("tarn/geom.frames", Rows.laid_tarn_geom_frames)] W) (hs : W.ShapedOpen Tryz.prog) : Rep (fun i => ⟨i, 0, 0, 0⟩) (GG []) W where
  blk := fun i b hb => by
    have h2 := size_of_shaped hs
    obtain ⟨t1, t2⟩ := tables h
    match i, hb with
    | 0, hb => injection hb with hb; subst hb; first | exact repB_tab (by omega) t1 | exact repB_tab (by omega) t2 | exact ⟨(by show 0 < W.heap.size; omega), (fun j v hv => nomatch hv), (fun h => nomatch h), (fun _ j hj => absurd hj (Nat.not_lt_zero j)), (fun f hf => nomatch hf), rfl⟩
    | 1, hb => injection hb with hb; subst hb; first | exact repB_tab (by omega) t1 | exact repB_tab (by omega) t2 | exact ⟨(by show 1 < W.heap.size; omega), (fun j v hv => nomatch hv), (fun h => nomatch h), (fun _ j hj => absurd hj (Nat.not_lt_zero j)), (fun f hf => nomatch hf), rfl⟩
    | 2, hb => injection hb with hb; subst hb; first | exact repB_tab (by omega) t1 | exact repB_tab (by omega) t2 | exact ⟨(by show 2 < W.heap.size; omega), (fun j v hv => nomatch hv), (fun h => nomatch h), (fun _ j hj => absurd hj (Nat.not_lt_zero j)), (fun f hf => nomatch hf), rfl⟩
    | i + 3, hb => exact nomatch hb
  apart := fun i j b c _ hb _ hw _ _ => by rw [ro_of hb] at hw; cases hw
abbrev laid2 : List (String × DataW Unit) := [("tarn/cube.frames", Rows.laid_tarn_cube_frames), ("tarn/geom.frames", Rows.laid_tarn_geom_frames)]
theorem own : ownKnob Tryz.prog.godebug = none := by kernel_rfl
theorem laidOut : laidOutB Tryz.prog = true := by kernel_rfl
theorem door_met (os : Os) (args : Array Value) : laidMetH Tryz.prog laid2 ((World.doorLaid Tryz.prog 400 os).forCall (fun _ _ => 0) ⟨#[], args, []⟩).memory :=
  laidMetH_of_parts3 (fuel := 8) (laidMet_of_run' 8 (by kernel_rfl) (by kernel_rfl)) (by kernel_rfl) (by kernel_rfl)
section
variable {H : Type} {enc : TypeId × Value → H}
theorem trodAll_below {P : Program} {W W' : World} (hl : laidOutB P = true) (hb : Below W.heap.size W W') : ∀ {ts : List TypeId} {vs : List Value} {ds : List (DataW H)} {ps : List MemPlace},
    (∀ t ∈ ts, P.readableRec t = true ∧ t < P.types.size) → DataW.TrodAll enc P W 0 (fun _ => true) true ts vs ds ps → (∀ x ∈ ps, x.block < W.heap.size) →
    DataW.TrodAll enc P W' 0 (fun b => decide (b < W.heap.size)) true ts vs ds ps
  | [], [], [], _, _, h, _ => h
  | t :: ts, v :: vs, d :: ds, _, ht, ⟨p, q, h1, h2, rfl⟩, hlt => by
    obtain ⟨k1, k2⟩ := ht t (List.mem_cons_self ..)
    exact ⟨p, q, Below.trod hl k1 k2 h1 hb (fun x hx => hlt x (List.mem_append_left _ hx)), trodAll_below hl hb (fun t h => ht t (List.mem_cons_of_mem _ h)) h2 (fun x hx => hlt x (List.mem_append_right _ hx)), rfl⟩
theorem trodAll_len {P : Program} {W : World} {base : Nat} {sp : Nat → Bool} {held : Bool} : ∀ {ts : List TypeId} {vs : List Value} {ds : List (DataW H)} {ps : List MemPlace},
    DataW.TrodAll enc P W base sp held ts vs ds ps → ds.length = ts.length
  | [], [], [], _, _ => rfl
  | t :: ts, v :: vs, d :: ds, _, ⟨p, q, _, h2, _⟩ => by rw [List.length_cons, List.length_cons, trodAll_len h2]
end

/-- The tables and read-only blocks 'z' lie in W. -/
structure Lay (W : World) (z : List Blk) (g : Nat → Pl) : Prop where
  rep : Rep g (GG z) W
  base : ∀ i, i < 3 → g i = ⟨i, 0, 0, 0⟩
  ro : roM (GG z) = true
  sc : scM (GG z).length (GG z) = true
theorem roM_snoc : ∀ {m : List Blk} {b : Blk}, roM m = true → b.w = false → roM (m ++ [b]) = true
  | [], b, _, h => by simp [roM, h]
  | c :: m, b, h, h' => by
    simp only [roM, List.cons_append, Bool.and_eq_true] at *
    exact ⟨h.1, roM_snoc h.2 h'⟩
theorem Lay.len {W : World} {z : List Blk} {g : Nat → Pl} (h : Lay W z g) : 0 < W.heap.size := by
  have h0 : ∃ b, (GG z)[0]? = some b := ⟨_, rfl⟩
  obtain ⟨b, hb⟩ := h0
  have := (h.rep.blk 0 b hb).size
  omega
/-- One block more. -/
theorem Lay.snoc {W : World} {z : List Blk} {g : Nat → Pl} (h : Lay W z g) (b : Blk) (p : Pl) (hw : b.w = false) (hb : RepB ((GG z).length + 1) (newAtP g (GG z).length p) W p b) (hs : b.b.sc ((GG z).length + 1) = true) :
    Lay W (z ++ [b]) (newAtP g (GG z).length p) := by
  have e : GG (z ++ [b]) = GG z ++ [b] := rfl
  have hold : ∀ i, i < (GG z).length → newAtP g (GG z).length p i = g i := newAtP_old g _ p
  have hnew : newAtP g (GG z).length p (GG z).length = p := by simp [newAtP]
  refine ⟨?_, fun i hi => ?_, by rw [e]; exact roM_snoc h.ro hw, ?_⟩
  · rw [e]
    refine ⟨fun i d hd => ?_, fun i j c d hij hc hd hcw _ _ => ?_⟩
    · rcases snoc_get hd with ⟨hi, hd⟩ | ⟨rfl, rfl⟩
      · rw [hold i hi]
        exact (h.rep.blk i d hd).congr rfl (by simp) fun k hk => .inl (hold k hk)
      · rw [hnew]
        simpa using hb
    · have := roM_get (by rw [← e]; exact (by rw [e]; exact roM_snoc h.ro hw)) hc
      rw [this] at hcw; cases hcw
  · have : i < (GG z).length := by simp; omega
    rw [hold i this]; exact h.base i hi
  · rw [e]
    refine scM_app (scM_mono (by simp) _ h.sc) ?_
    simp only [List.length_append, List.length_cons, List.length_nil]
    simp [scM] at hs ⊢
    exact hs
section
variable {H : Type} {enc : TypeId × Value → H}
theorem nofoot_ro {g : Nat → Pl} {m : List Blk} (h : roM m = true) {p : Nat} : ¬ Foot g m p := by
  rintro ⟨i, b, hb, hw, _⟩
  rw [roM_get h hb] at hw
  cases hw
theorem lay0 {W : World} (h : laidMetH Tryz.prog [("tarn/cube.frames", Rows.laid_tarn_cube_frames), ("tarn/geom.frames", Rows.laid_tarn_geom_frames)] W) (hs : W.ShapedOpen Tryz.prog) : Lay W [] (fun i => ⟨i, 0, 0, 0⟩) :=
  ⟨rep_of h hs, fun _ _ => rfl, by kernel_rfl, by kernel_rfl⟩
/-- A law's contract, at a world that fits. -/
theorem calls_lay {f : FuncId} (fn : Func) {args : List V} {xs : List Value} {W : World} {z : List Blk} {g : Nat → Pl} (hf : Tryz.prog.funcs[f]? = some fn) (hp : plainFn fn = true) (L : Lay W z g) (hk : COk Tryz.prog 3 f args (GG z) (Bo true) (GG z))
    (ha : Rvs (GG z).length g args xs) : Calls Tryz.prog f xs.toArray W fun e W' => e = .returned (.bool true) ∧ Below W.heap.size W W' := by
  have key := hk g W xs ⟨by simp, fun i hi => L.base i hi⟩ L.rep ha
  simp only [plainFn, Bool.and_eq_true, bne_iff_ne, ne_eq, Option.isSome_iff_exists] at hp
  obtain ⟨h1, c, h2⟩ := hp
  have e : (callFunc f xs.toArray).run Tryz.prog W = .ok (.enter f xs.toArray) W := by simp [callFunc, hf, h1, h2]
  rw [e] at key
  refine key.mono ?_
  rintro e W' ⟨g', x, rfl, hx, _, st⟩
  have hx : x = .bool true := hx
  subst hx
  exact ⟨rfl, st.os, st.tape, st.output, st.size, fun k hk => st.same k hk (nofoot_ro L.ro)⟩
theorem handed_sized {a : Assume} {C : Checked} {os : Os} {f : FuncId} {fn : Func} {s : ChangeSpec} {conds : List PathCond} {apart fresh handsOn again : Bool} {X : World → Array Value → Prop}
    (hX : ∀ (w w' : World) (args : Array Value), w.heap = w'.heap → X w args → X w' args)
    (own : ownKnob C.prog.godebug = none) (started : os.Started) (noInit : C.prog.inits.idxOf? f = none) (hfn : C.prog.funcs[f]? = some fn)
    (witness : ∃ (w : World) (tape : Tape) (i : Input), w.os = os ∧ (w.forCall tape i).Shaped C.prog ∧ i.vars = [] ∧ Input.okWide C.prog (w.forCall tape i) .any w.heap.size f i ∧
      ((s.pre enc C.prog fn conds apart (w.forCall tape i).memory i.args ∧ X (w.forCall tape i).memory i.args) ∧ sizedMet enc C.prog fn (OpenSpec.ofChange s) apart (w.forCall tape i).memory i.args) ∧ a.holds C.prog (lone (Frame.enter C.prog f i.args .normal) [] (w.forCall tape i)))
    (contract : ∀ (W : World) (base : Nat) (args : Array Value) (ds gs : List (DataW H)) (before : List MemPlace),
      (∀ (j : Nat) t v, fn.params[j]? = some t → args[j]? = some v → Value.okWide C.prog W .any base t v) →
      DataW.Whole enc C.prog fn.params.toList s.vars apart W args.toList ds gs before →
      (DataW.weightsEach C.prog (fn.params.toList ++ (OpenSpec.ofChange s).bare.plain.varTypes C.prog) (ds ++ gs)).all (· ≤ reachBytes) = true →
      X W args → W.ShapedOpen C.prog →
      Calls C.prog f args W fun e W' => ∃ v, e = .returned v ∧ s.post enc C.prog fn apart fresh handsOn again W args v W') :
    ReturnsInHanded a C os f .any (fun w args => (s.pre enc C.prog fn conds apart w args ∧ X w args) ∧ sizedMet enc C.prog fn (OpenSpec.ofChange s) apart w args) (s.post enc C.prog fn apart fresh handsOn again) := by
  refine returnsInHanded_of_calls own started noInit witness ?_
  intro w tape i _ hsh _ hok hpre hholds
  obtain ⟨_, _, _, fn', hfn', _, _, _, _, hval⟩ := hok
  have e : fn' = fn := Option.some.inj (hfn'.symm.trans hfn)
  subst e
  obtain ⟨⟨⟨ds, gs, before, hw, hc⟩, hx⟩, hz⟩ := hpre
  have hw' := DataW.Whole.of_heap (w' := w.forCall tape i) (by rfl) hw
  refine (contract (w.forCall tape i) w.heap.size i.args ds gs before hval hw' (hz.weights hw) (hX _ _ _ (by rfl) hx) hsh).mono fun e W' ⟨v, he, hp⟩ => ?_
  subst he
  exact ChangeSpec.post_blind hp
/-- A law that says 'true' and leaves its arguments. -/
theorem law_sized {f : FuncId} (fn : Func) (s : ChangeSpec) (os : Os) (started : os.Started) (hf : Tryz.prog.funcs[f]? = some fn) (hp : plainFn fn = true) (noInit : Tryz.prog.inits.idxOf? f = none)
    (hv : s.vars = []) (hres : fn.resultTypes = #[4]) (hts : ∀ t ∈ fn.params.toList, Tryz.prog.readableRec t = true ∧ t < Tryz.prog.types.size)
    (hs : ∀ ds : List (DataW H), ds.length = fn.params.toList.length → s.fn H ds = { results := [.lit (.bool true)], args := ds })
    (witness : ∃ (w : World) (tape : Tape) (i : Input), w.os = os ∧ (w.forCall tape i).Shaped Tryz.checked.prog ∧ i.vars = [] ∧ Input.okWide Tryz.checked.prog (w.forCall tape i) .any w.heap.size f i ∧
      ((s.pre enc Tryz.checked.prog fn [] false (w.forCall tape i).memory i.args ∧ laidMetH Tryz.prog laid2 (w.forCall tape i).memory) ∧ sizedMet enc Tryz.checked.prog fn (OpenSpec.ofChange s) false (w.forCall tape i).memory i.args) ∧ ({} : Assume).holds Tryz.checked.prog (lone (Frame.enter Tryz.checked.prog f i.args .normal) [] (w.forCall tape i)))
    (hcon : ∀ (W : World) (base : Nat) (args : Array Value) (ds : List (DataW H)) (ps : List MemPlace), (∀ (j : Nat) t v, fn.params[j]? = some t → args[j]? = some v → Value.okWide Tryz.prog W .any base t v) →
      DataW.TrodAll enc Tryz.prog W 0 (fun _ => true) true fn.params.toList args.toList ds ps → (DataW.weightsEach Tryz.prog fn.params.toList ds).all (· ≤ reachBytes) = true → Lay W [] (fun i => ⟨i, 0, 0, 0⟩) →
      ∃ vs z g, Lay W z g ∧ COk Tryz.prog 3 f vs (GG z) (Bo true) (GG z) ∧ Rvs (GG z).length g vs args.toList) :
    ReturnsInHanded {} Tryz.checked os f .any (fun w args => (s.pre enc Tryz.prog fn [] false w args ∧ laidMetH Tryz.prog laid2 w) ∧ sizedMet enc Tryz.prog fn (OpenSpec.ofChange s) false w args) (s.post enc Tryz.prog fn false true false false) := by
  refine handed_sized (C := Tryz.checked) (X := fun w _ => laidMetH Tryz.prog laid2 w) (fun _ _ _ hh h => h.of_heap hh) own started noInit hf witness ?_
  intro W base args ds gs before hval hW hwt hL hsh
  have hW' := hW
  obtain ⟨p, q, hA, hV, rfl, hfz, hnd⟩ := hW
  rw [hv] at hV
  obtain ⟨rfl, rfl⟩ := trodVars_none hV
  have hvt : (OpenSpec.ofChange s).bare.plain.varTypes Tryz.prog = [] := by
    have : (OpenSpec.ofChange s).bare.plain.vars = [] := hv
    simp [DataSpec.varTypes, this]
  have hwt : (DataW.weightsEach Tryz.prog fn.params.toList ds).all (· ≤ reachBytes) = true := by
    have := hwt
    rw [List.append_nil] at this
    rwa [show (OpenSpec.ofChange s).bare.plain.varTypes Tryz.checked.prog = [] from hvt, List.append_nil] at this
  obtain ⟨vs, z, g, L, hc, hr⟩ := hcon W base args ds p hval hA hwt (lay0 hL hsh)
  have hlen := trodAll_len hA
  refine (calls_lay fn hf hp L hc hr).mono fun e W' ⟨he, hb⟩ => ⟨_, he, ?_⟩
  have hlt := hW'.lt
  refine ⟨ds, [], p ++ [], [], p, [], hW', ?_, ?_, ?_, hb.frame _, fun h => by cases h⟩
  · rw [hres, List.append_nil, hs ds hlen]
    exact trodAll_mk1 (shut_bool (by kernel_rfl) true)
  · rw [List.append_nil, hs ds hlen]
    exact trodAll_below laidOut hb hts hA (fun x hx => hlt x (by simpa using hx))
  · rw [hv, List.append_nil, hs ds hlen]
    rfl
end

/-- A float of 64 bits. -/
abbrev inF (b : Nat) : Prop := b < 18446744073709551616
theorem wf64 {b : Nat} (h : (Lit.float .f64 b).wf = true) : inF b := by
  simpa [Lit.wf] using h
/-- Floats that are read. -/
structure SlF (M : List Blk) (j o : Nat) (l : List Nat) : Prop where
  rd : ∀ i, i < l.length → ∀ K : V → Prop, K (F (l.getD i 0)) → rd1 (getB M j).b (o + i) K
  live : (getB M j).b.live = true
  wf : ∀ i, i < l.length → inF (l.getD i 0)
  short : l.length < 4611686018427387904
theorem SlF.app {M : List Blk} {j o : Nat} {l : List Nat} (h : SlF M j o l) (x : List Blk) : SlF (M ++ x) j o l := by
  have e : getB (M ++ x) j = getB M j := getB_in rfl h.live
  exact ⟨by rw [e]; exact h.rd, by rw [e]; exact h.live, h.wf, h.short⟩
theorem SlF.up {M M' : List Blk} {j o : Nat} {l : List Nat} (h : SlF M j o l) (u : Up M M') : SlF M' j o l := by
  obtain ⟨x, rfl⟩ := u.ex; exact h.app x
theorem SlF.lt {M : List Blk} {j o : Nat} {l : List Nat} (h : SlF M j o l) : j < M.length := getB_lt rfl h.live
theorem SlF.at {M : List Blk} {j o : Nat} {l : List Nat} (h : SlF M j o l) {i off : Nat} {K : V → Prop} (hi : i < l.length) (ho : off = o + i * 1) (hk : K (F (l.getD i 0))) : rd1 (getB M j).b off K := by
  rw [Nat.mul_one] at ho; subst ho; exact h.rd i hi K hk
theorem SlF.flts {M : List Blk} {j o : Nat} {w : Bool} {L l : List Nat} (h : getB M j = ⟨w, .flts L⟩) (hl : ∀ i, i < l.length → o + i < L.length ∧ L.getD (o + i) 0 = l.getD i 0) (hw : ∀ i, i < l.length → inF (l.getD i 0)) (hs : l.length < 4611686018427387904) : SlF M j o l :=
  ⟨fun i hi K hk => by
    rw [h]
    obtain ⟨h1, h2⟩ := hl i hi
    show br (Nat.blt (o + i) L.length) (K (.fl (some (L.getD (o + i) 0)))) False
    rw [show Nat.blt (o + i) L.length = true by simpa [Nat.blt_eq] using h1, h2]
    exact hk, by rw [h]; rfl, hw, hs⟩
def SliF (M : List Blk) (v : V) (l : List Nat) : Prop := (v = .raw (.slice none 0 0) ∧ l = []) ∨ ∃ j o, v = .sl j o l.length ∧ SlF M j o l
theorem SliF.app {M : List Blk} {v : V} {l : List Nat} (h : SliF M v l) (x : List Blk) : SliF (M ++ x) v l := by
  rcases h with h | ⟨j, o, h1, h2⟩
  · exact .inl h
  · exact .inr ⟨j, o, h1, h2.app x⟩
theorem SliF.up {M M' : List Blk} {v : V} {l : List Nat} (h : SliF M v l) (u : Up M M') : SliF M' v l := by
  obtain ⟨x, rfl⟩ := u.ex; exact h.app x
theorem SliF.wf {M : List Blk} {v : V} {l : List Nat} (h : SliF M v l) : (∀ i, i < l.length → inF (l.getD i 0)) ∧ l.length < 4611686018427387904 := by
  rcases h with ⟨_, rfl⟩ | ⟨j, o, _, h⟩
  · exact ⟨fun i hi => absurd hi (Nat.not_lt_zero i), by decide⟩
  · exact ⟨h.wf, h.short⟩
theorem SliF.of {M : List Blk} {j o : Nat} {l : List Nat} (h : SlF M j o l) : SliF M (.sl j o l.length) l := .inr ⟨j, o, rfl, h⟩
section
variable {H : Type} {enc : TypeId × Value → H} {P : Program} {w : World} {base : Nat} {spare : Nat → Bool} {held : Bool}
def flits (l : List Nat) : List (DataW H) := l.map fun b => .lit (.float .f64 b)
def bitsOf (y : DataW H × List MemPlace) : Nat := match y.1 with
  | .lit (.float _ b) => b
  | _ => 0
theorem trod_float {t : TypeId} {fuel : Nat} {cs : List Value} {x : DataW H × List MemPlace} (ht : P.underlying t = some (.float .f64)) (h : DataW.trod enc P w base spare held fuel t cs = some x) : ∃ b, cs = [.float .f64 b] ∧ x = (.lit (.float .f64 b), []) ∧ (Lit.float .f64 b).wf = true := by
  cases fuel with
  | zero => simp [DataW.trod] at h
  | succ n =>
    unfold DataW.trod at h
    rw [ht] at h
    split at h <;> simp_all
theorem open_flts {t e : TypeId} {fuel : Nat} {cs : List Value} {x : DataW H × List MemPlace} (ht : P.underlying t = some (.slice e)) (he : P.underlying e = some (.float .f64)) (hc : P.cellsOf e = 1)
    (h : DataW.trod enc P w base spare held fuel t cs = some x) :
    (cs = [.slice none 0 0] ∧ x = (.nil, [])) ∨
    ∃ (a : Addr) (len cap : Nat) (zs : List Nat), cs = [.slice (some a) len cap] ∧ base ≤ a.block ∧ len ≤ cap ∧ cap ≤ maxLen ∧ zs.length = (if spare a.block then cap else len) ∧
      x = (.slice (flits (zs.take len)) (flits (zs.drop len)), MemPlace.row a zs.length) ∧
      (∀ i, i < zs.length → w.cell? (a.add i) = some (.float .f64 (zs.getD i 0))) ∧ (∀ n ∈ zs, (Lit.float .f64 n).wf = true) := by
  rcases DataW.trod_slice ht h with h0 | ⟨a, len, cap, elems, rest, n, _, rfl, rfl, hb, hl, hm, hlen, hel, hsp, hns⟩
  · exact Or.inl h0
  right
  have each : ∀ i y, (elems ++ rest)[i]? = some y → y = (.lit (.float .f64 (bitsOf y)), []) ∧ (Lit.float .f64 (bitsOf y)).wf = true ∧ w.cell? (a.add i) = some (.float .f64 (bitsOf y)) := by
    intro i y hy
    have hb' : (w.cells? base (a.add (i * P.cellsOf e)) (P.cellsOf e)).bind (DataW.trod enc P w base spare held n e) = some y := by
      by_cases hi : i < len
      · rw [hel i hi, ← hy, List.getElem?_append_left (by omega)]
      · have hi' : i - len < rest.length := by
          have := (List.getElem?_eq_some_iff.1 hy).1
          simp at this
          omega
        cases hs : spare a.block with
        | false => rw [hns hs] at hi'; simp at hi'
        | true =>
          obtain ⟨hrl, hr⟩ := hsp hs
          have := hr (i - len) (by omega)
          rw [show len + (i - len) = i by omega] at this
          rw [this, ← hy, List.getElem?_append_right (by omega), hlen]
    rw [hc, Nat.mul_one, Option.bind_eq_some_iff] at hb'
    obtain ⟨cs', hcs, hy'⟩ := hb'
    obtain ⟨m, rfl, rfl, hw⟩ := trod_float he hy'
    exact ⟨rfl, hw, cell_of_cells?_one hcs⟩
  have mem : ∀ y ∈ elems ++ rest, y = (.lit (.float .f64 (bitsOf y)), []) ∧ (Lit.float .f64 (bitsOf y)).wf = true := by
    intro y hy
    obtain ⟨i, hi⟩ := List.getElem?_of_mem hy
    exact ⟨(each i y hi).1, (each i y hi).2.1⟩
  refine ⟨a, len, cap, (elems ++ rest).map bitsOf, rfl, hb, hl, hm, ?_, ?_, ?_, ?_⟩
  · simp only [List.length_map, List.length_append, hlen]
    cases hs : spare a.block with
    | false => simp [hns hs]
    | true => simp [(hsp hs).1]; omega
  · have e1 : ((elems ++ rest).map bitsOf).take len = elems.map bitsOf := by rw [← List.map_take, ← hlen, List.take_left]
    have e2 : ((elems ++ rest).map bitsOf).drop len = rest.map bitsOf := by rw [← List.map_drop, ← hlen, List.drop_left]
    have f1 : ∀ l : List (DataW H × List MemPlace), (∀ y ∈ l, y ∈ elems ++ rest) → l.map (·.1) = flits (l.map bitsOf) := by
      intro l hl'
      simp only [flits, List.map_map]
      exact List.map_congr_left (fun y hy => by
        have := (mem y (hl' y hy)).1
        exact congrArg Prod.fst this)
    have f2 : (elems ++ rest).flatMap (·.2) = [] := by
      rw [List.flatMap_eq_nil_iff]
      intro y hy
      exact congrArg Prod.snd (mem y hy).1
    rw [e1, e2, f1 elems (fun y hy => by simp [hy]), f1 rest (fun y hy => by simp [hy]), f2, hc]
    simp
  · intro i hi
    simp only [List.length_map] at hi
    have hy : (elems ++ rest)[i]? = some ((elems ++ rest)[i]'hi) := List.getElem?_eq_getElem hi
    have := (each i _ hy).2.2
    have e : ((elems ++ rest).map bitsOf).getD i 0 = bitsOf ((elems ++ rest)[i]'hi) := by rw [List.getD, List.getElem?_map, hy]; rfl
    rw [this, e]
  · intro m hm'
    obtain ⟨y, hy, rfl⟩ := List.mem_map.1 hm'
    exact (mem y hy).2
end
section
variable {H : Type} {enc : TypeId × Value → H}
end

/-- A sea's lists, each in a block of its own. -/
structure SeaB (M : List Blk) (w : Bool) (j0 j1 j2 j3 : Nat) (bed : List Nat) (water tracer : List Int) (speed : List Nat) : Prop where
  b0 : getB M j0 = ⟨w, .flts bed⟩
  b1 : getB M j1 = ⟨w, .ints .i64 water⟩
  b2 : getB M j2 = ⟨w, .ints .i64 tracer⟩
  b3 : getB M j3 = ⟨w, .flts speed⟩
  f0 : ∀ i, i < bed.length → inF (bed.getD i 0)
  f1 : ∀ i, i < water.length → in64 (water.getD i 0)
  f2 : ∀ i, i < tracer.length → in64 (tracer.getD i 0)
  f3 : ∀ i, i < speed.length → inF (speed.getD i 0)
  l0 : bed.length ≤ 17592186044416
  l1 : water.length ≤ 17592186044416
  l2 : tracer.length ≤ 17592186044416
  l3 : speed.length ≤ 17592186044416
/-- A sea's lists that are read. -/
structure SeaR (M : List Blk) (j0 j1 j2 j3 : Nat) (bed : List Nat) (water tracer : List Int) (speed : List Nat) : Prop where
  s0 : SlF M j0 0 bed
  s1 : SlI M j1 0 water
  s2 : SlI M j2 0 tracer
  s3 : SlF M j3 0 speed
section
variable {M M' : List Blk} {w : Bool} {j0 j1 j2 j3 : Nat} {bed : List Nat} {water tracer : List Int} {speed : List Nat}
theorem SeaB.app (h : SeaB M w j0 j1 j2 j3 bed water tracer speed) (x : List Blk) : SeaB (M ++ x) w j0 j1 j2 j3 bed water tracer speed :=
  ⟨getB_in h.b0 rfl, getB_in h.b1 rfl, getB_in h.b2 rfl, getB_in h.b3 rfl, h.f0, h.f1, h.f2, h.f3, h.l0, h.l1, h.l2, h.l3⟩
theorem SeaB.up (h : SeaB M w j0 j1 j2 j3 bed water tracer speed) (u : Up M M') : SeaB M' w j0 j1 j2 j3 bed water tracer speed := by
  obtain ⟨x, rfl⟩ := u.ex; exact h.app x
theorem SeaR.app (h : SeaR M j0 j1 j2 j3 bed water tracer speed) (x : List Blk) : SeaR (M ++ x) j0 j1 j2 j3 bed water tracer speed :=
  ⟨h.s0.app x, h.s1.app x, h.s2.app x, h.s3.app x⟩
theorem SeaR.up (h : SeaR M j0 j1 j2 j3 bed water tracer speed) (u : Up M M') : SeaR M' j0 j1 j2 j3 bed water tracer speed := by
  obtain ⟨x, rfl⟩ := u.ex; exact h.app x
theorem SlF.whole {j : Nat} {l : List Nat} (h : getB M j = ⟨w, .flts l⟩) (hw : ∀ i, i < l.length → inF (l.getD i 0)) (hs : l.length ≤ 17592186044416) : SlF M j 0 l :=
  SlF.flts h (fun i hi => ⟨by omega, by rw [Nat.zero_add]⟩) hw (by omega)
theorem SlI.whole {j : Nat} {l : List Int} (h : getB M j = ⟨w, .ints .i64 l⟩) (hw : ∀ i, i < l.length → in64 (l.getD i 0)) (hs : l.length ≤ 17592186044416) : SlI M j 0 l :=
  SlI.ints h (fun i hi => ⟨by omega, by rw [Nat.zero_add]⟩) hw (by omega)
theorem SeaB.read (h : SeaB M w j0 j1 j2 j3 bed water tracer speed) : SeaR M j0 j1 j2 j3 bed water tracer speed :=
  ⟨SlF.whole h.b0 h.f0 h.l0, SlI.whole h.b1 h.f1 h.l1, SlI.whole h.b2 h.f2 h.l2, SlF.whole h.b3 h.f3 h.l3⟩
end
/-- A sea by its lists' blocks and lengths. -/
abbrev seaV (j0 j1 j2 j3 a b c d : Nat) (sky step : Int) : V := .agg [.sl j0 0 a, .sl j1 0 b, .sl j2 0 c, .sl j3 0 d, .int .i64 sky, I step]
section
variable {H : Type} {enc : TypeId × Value → H}
theorem lay_fltsB {W : World} {z : List Blk} {g : Nat → Pl} (h : Lay W z g) {t e : TypeId} {fuel : Nat} {x : Value} {d : DataW H} {ps : List MemPlace} {sp : Nat → Bool} {held : Bool} (ht : Tryz.prog.underlying t = some (.slice e)) (he : Tryz.prog.underlying e = some (.float .f64)) (hc : Tryz.prog.cellsOf e = 1) (hb : Tryz.prog.bytesOf e = 8)
    (hr : DataW.trod enc Tryz.prog W 0 sp held fuel t [x] = some (d, ps)) (hsz : (d.weights Tryz.prog t).all (· ≤ reachBytes) = true) :
    ∃ l g', Lay W (z ++ [⟨false, .flts l⟩]) g' ∧ (∀ i, i < (GG z).length → g' i = g i) ∧ Rv (GG (z ++ [⟨false, .flts l⟩])).length g' (.sl (GG z).length 0 l.length) x ∧ (∀ i, i < l.length → inF (l.getD i 0)) ∧ l.length ≤ 17592186044416 := by
  have hlen := h.len
  have hnil : ∀ (b : Blk) , b = ⟨false, .flts []⟩ → RepB ((GG z).length + 1) (newAtP g (GG z).length ⟨0, 0, 0, 0⟩) W ⟨0, 0, 0, 0⟩ b := fun b hb => by
    subst hb
    exact ⟨hlen, (fun j v hv => by simp [B.get] at hv), (fun h => nomatch h), (fun _ j hj => absurd hj (Nat.not_lt_zero j)), (fun f hf => nomatch hf), rfl⟩
  rcases open_flts ht he hc hr with ⟨h1, h2⟩ | ⟨a, len, cap, zs, h1, _, hlc, _, hzl, h2, hcell, hwf⟩
  · injection h1 with h1
    exact ⟨[], _, h.snoc _ ⟨0, 0, 0, 0⟩ rfl (hnil _ rfl) rfl, newAtP_old g _ _, ⟨by simp, by simp [newAtP], none, 0, h1, Nat.le_refl _, fun h => absurd h (Nat.lt_irrefl 0)⟩, fun i hi => absurd hi (Nat.not_lt_zero i), Nat.zero_le _⟩
  · injection h1 with h1
    have hd : d = .slice (flits (zs.take len)) (flits (zs.drop len)) := congrArg Prod.fst h2
    have hlz : len ≤ zs.length := by rw [hzl]; split <;> omega
    have hle : len ≤ 17592186044416 := by
      rw [hd] at hsz
      unfold DataW.weights at hsz
      rw [ht] at hsz
      simp only [List.all_cons, Bool.and_eq_true, decide_eq_true_eq, hb, flits, List.length_map, List.length_take, List.length_drop] at hsz
      have : reachBytes = 140737488351232 := rfl
      omega
    have htl : (zs.take len).length = len := by rw [List.length_take]; omega
    rcases Nat.eq_zero_or_pos len with rfl | hpos
    · exact ⟨[], _, h.snoc _ ⟨0, 0, 0, 0⟩ rfl (hnil _ rfl) rfl, newAtP_old g _ _, ⟨by simp, by simp [newAtP], some a, cap, h1, hlc, fun h => absurd h (Nat.lt_irrefl 0)⟩, fun i hi => absurd hi (Nat.not_lt_zero i), Nat.zero_le _⟩
    · have h0 := hcell 0 (by omega)
      have hspot : a.spot = none := by
        unfold World.cell? at h0
        have : a.add 0 = a := rfl
        rw [this] at h0
        split at h0
        · split at h0
          · exact absurd h0 (by simp)
          · rename_i hs; simpa using hs
        · exact absurd h0 (by simp)
      obtain ⟨ab, ao, asp⟩ := a
      simp only at hspot
      subst hspot
      have hadd : ∀ i, (Addr.mk ab ao none).add i = ⟨ab, ao + i, none⟩ := by
        intro i; unfold Addr.add
        split
        · rename_i h; subst h; rfl
        · rfl
      have hsize : ab < W.heap.size := by
        unfold World.cell? at h0
        rw [hadd] at h0
        simp only at h0
        split at h0
        · rename_i he; exact (Array.getElem?_eq_some_iff.1 he).1
        · exact absurd h0 (by simp)
      refine ⟨zs.take len, _, h.snoc _ ⟨ab, ao, 0, 0⟩ rfl ?_ rfl, newAtP_old g _ _, ?_, fun i hi => ?_, by omega⟩
      · refine ⟨hsize, fun j v hv => ?_, (fun h => nomatch h), (fun _ j hj => absurd hj (Nat.not_lt_zero j)), (fun f hf => nomatch hf), rfl⟩
        have hv : ((zs.take len)[j]?).map (fun b => V.fl (some b)) = some v := hv
        obtain ⟨y, hy, rfl⟩ := Option.map_eq_some_iff.1 hv
        have hj : j < len := by
          have := (List.getElem?_eq_some_iff.1 hy).1; omega
        refine ⟨.float .f64 y, ?_, ⟨y, rfl, rfl⟩⟩
        have := hcell j (by omega)
        rw [hadd] at this
        rw [List.getElem?_take, if_pos hj] at hy
        show W.cell? ⟨ab, ao + j, none⟩ = _
        rw [this, List.getD_eq_getElem?_getD, hy]; rfl
      · refine ⟨by simp, by simp [newAtP], some ⟨ab, ao, none⟩, cap, by rw [htl]; exact h1, by omega, fun _ => by simp [newAtP]⟩
      · rw [List.getD_eq_getElem?_getD, List.getElem?_eq_getElem hi]
        exact wf64 (hwf _ (List.mem_of_mem_take (List.getElem_mem hi)))
end

section
variable {H : Type} {enc : TypeId × Value → H} {P : Program} {w : World} {base : Nat} {spare : Nat → Bool} {held : Bool}
end
end Go.Proofs.YtgoljofmbidkfaaGreatDoor
/- Lists that are compared and copied. No condition. -/
namespace Go.Proofs.YtgoljofmbidkfaaGreatDoor
open Go Go.Eng
set_option maxRecDepth 100000
set_option linter.unusedSimpArgs false
set_option linter.unusedVariables false

theorem same_eq (a : Nat) (m : List Blk) : COk Tryz.prog 3 37 [F a, F a] m (Bo true) m := by
  have := same_ok a a m
  rwa [decide_eq_true rfl] at this
/-- A list in new memory. -/
theorem rawCopied_ok {M : List Blk} (hsc : scM M.length M = true) {j n : Nat} {w : Bool} {L : List Nat} (hj : getB M j = ⟨w, .flts L⟩) (hn : n ≤ L.length) (hs : n ≤ 17592186044416) : COk Tryz.prog 3 102 [.sl j 0 n] M (.sl M.length 0 n) (M ++ [⟨true, .flts (L.take n)⟩]) := by
  have hlt : j < M.length := getB_lt hj rfl
  refine COk_of_ev Tryz.f102 Tryz.func102 (by kernel_rfl) (by simp) (by simp [V.sc, scL]) (.inr (scM_app (scM_mono (by simp) _ hsc) (by simp [scM, B.sc, scL, V.sc]))) ?_
  have hb : ∀ x, getB (M ++ x) j = ⟨w, .flts L⟩ := fun x => getB_in hj rfl
  have e1 : min n n = n := Nat.min_self n
  have g1 : Nat.ble (0 + min n n * 1) L.length = true := by rw [e1]; simpa using hn
  have g2 : Nat.ble (0 + ((L.drop 0).take (min n n * 1)).length) (List.replicate (n * 1) (0 : Nat)).length = true := by
    rw [e1, List.drop_zero, Nat.mul_one, List.length_take, List.length_replicate, Nat.min_eq_left hn]; simp
  have g3 : (List.replicate (n * 1) (0 : Nat)).take 0 ++ (L.drop 0).take (min n n * 1) ++ (List.replicate (n * 1) (0 : Nat)).drop (0 + ((L.drop 0).take (min n n * 1)).length) = L.take n := by
    rw [e1, List.drop_zero, Nat.mul_one, List.take_zero, List.nil_append, List.length_take, Nat.min_eq_left hn, Nat.zero_add, List.drop_of_length_le (by simp), List.append_nil]
  (conv => whnf); repeat ((first | refine br_d ⟨by omega, by omega, by omega, (by show (8 : Int) * _ ≤ 2 ^ 48; omega)⟩ ?_ | rw [hb] | rw [Int.toNat_natCast] | refine br_yes g1 ?_ | refine br_yes g2 ?_ | refine put_at0 (blkF g3) ?_ | refine br_d (by omega) ?_ | refine br_nd (by omega) ?_ | refine br_eq (by omega) ?_ | refine br_neq (by omega) ?_ | refine br_ne (by omega) ?_ | refine br_no (bo_eqn (by omega)) ?_ | refine Or.inl ?_ | refine okS_no (by kernel_rfl) ?_ | refine okS_yes (by kernel_rfl) ?_ | refine And_of (by (conv => whnf); (rw [getB_app0]); (conv => whnf)) ?_ | refine setB_app ?_ | refine setB_app0 ?_ | rw [getB_app] | rw [getB_app0] | refine addB_f13 ?_ | refine addB_f12 ?_ | refine addB_f11 ?_ | refine addB_f10 ?_ | refine addB_f9 ?_ | refine addB_f8 ?_ | refine addB_f7 ?_ | refine addB_f6 ?_ | refine addB_f5 ?_ | refine addB_f4 ?_ | refine addB_f3 ?_ | refine addB_f2 ?_ | refine addB_f1 ?_ | refine addB_f0 ?_); conv => whnf)
  exact ⟨rfl, [], by rw [List.append_nil]; rfl⟩
end Go.Proofs.YtgoljofmbidkfaaGreatDoor
