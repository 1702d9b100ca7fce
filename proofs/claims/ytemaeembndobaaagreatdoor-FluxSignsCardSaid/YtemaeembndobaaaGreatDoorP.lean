/- The bridge from a contract to a row: the listed tables as abstract memory; the wrap with the world's shape. No condition. -/
import Derived.Test.YtemaeembndobaaaGreatDoorB
import Derived.Test.YtemaeembndobaaaGreatDoorRows
import Derived.ProofKit
import Derived.LaidMore
import Derived.OpenShut
import Derived.Stop.Joined
import Derived.Lib.LaidU8
import Derived.MakeChecks
import Derived.Below
namespace Go.Proofs.YtemaeembndobaaaGreatDoor
open Go Go.Eng Go.ChangeShapes Go.WideShapes Go.RowKit
set_option maxRecDepth 100000
set_option linter.unusedSimpArgs false
set_option linter.unusedVariables false

section
variable {H : Type} {enc : TypeId × Value → H} {P : Program} {w : World} {base : Nat} {sp : Nat → Bool} {held : Bool}
/-- An array, of whose elements one knows how they read. -/
theorem trod_level {α : Type} {t e : TypeId} {n : Nat} (f : α → List Value) (D : α → DataW H)
    (hE : ∀ fuel cs d p, DataW.trod enc P w base sp held fuel e cs = some (d, p) → ∃ a, cs = f a ∧ d = D a) (ht : P.underlying t = some (.array n e)) (hl : P.cellsOf t = n * P.cellsOf e) :
    ∀ fuel cs d p, DataW.trod enc P w base sp held fuel t cs = some (d, p) → ∃ zs : List α, cs = zs.flatMap f ∧ d = .agg (zs.map D) := by
  intro fuel cs d p h
  obtain ⟨xs, m, rfl, hx, hlen, hn, hel⟩ := DataW.trod_array ht h
  rw [hl] at hlen
  have key : ∀ (n : Nat) (cs : List Value) (xs : List (DataW H × List MemPlace)), cs.length = n * P.cellsOf e → xs.length = n →
      (∀ i, i < n → DataW.trod enc P w base sp held m e ((cs.drop (i * P.cellsOf e)).take (P.cellsOf e)) = xs[i]?) → ∃ zs : List α, cs = zs.flatMap f ∧ xs.map (·.1) = zs.map D := by
    intro n
    induction n with
    | zero =>
      intro cs xs h1 h2 _
      obtain rfl : cs = [] := List.eq_nil_of_length_eq_zero (by omega)
      obtain rfl : xs = [] := List.eq_nil_of_length_eq_zero h2
      exact ⟨[], rfl, rfl⟩
    | succ n ih =>
      intro cs xs h1 h2 h3
      match xs, h2 with
      | x :: xs, h2 =>
        have h0 := h3 0 (by omega)
        simp only [Nat.zero_mul, List.drop_zero, List.getElem?_cons_zero] at h0
        obtain ⟨a, ha, hd⟩ := hE m _ x.1 x.2 h0
        obtain ⟨zs, k1, k2⟩ := ih (cs.drop (P.cellsOf e)) xs (by rw [List.length_drop, h1, Nat.add_mul]; omega) (by simpa using h2) (fun i hi => by
          have := h3 (i + 1) (by omega)
          rw [List.drop_drop]
          rw [List.getElem?_cons_succ] at this
          rw [← this, Nat.add_mul, Nat.one_mul, Nat.add_comm])
        refine ⟨a :: zs, ?_, ?_⟩
        · rw [List.flatMap_cons, ← ha, ← k1, List.take_append_drop]
        · simp [hd, k2]
  obtain ⟨zs, k1, k2⟩ := key n cs xs hlen hn hel
  refine ⟨zs, k1, ?_⟩
  simp only [Prod.mk.injEq] at hx
  rw [hx.1, k2]
end
theorem map_inj {α β : Type} {f : α → β} (hf : ∀ a b, f a = f b → a = b) : ∀ l l' : List α, l.map f = l'.map f → l = l'
  | [], [], _ => rfl
  | a :: l, b :: l', h => by
    simp only [List.map_cons, List.cons.injEq] at h
    rw [hf _ _ h.1, map_inj hf l l' h.2]
abbrev D0 (z : Int) : DataW Unit := .lit (.int .i64 z)
abbrev D1 (l : List Int) : DataW Unit := .agg (l.map D0)
abbrev D2 (l : List (List Int)) : DataW Unit := .agg (l.map D1)
abbrev D3 (l : List (List (List Int))) : DataW Unit := .agg (l.map D2)
theorem D0_inj (a b : Int) (h : D0 a = D0 b) : a = b := by injection h with h; injection h
theorem D1_inj (a b : List Int) (h : D1 a = D1 b) : a = b := by injection h with h; exact map_inj D0_inj _ _ h
theorem D2_inj (a b : List (List Int)) (h : D2 a = D2 b) : a = b := by injection h with h; exact map_inj D1_inj _ _ h
theorem D3_inj (a b : List (List (List Int))) (h : D3 a = D3 b) : a = b := by injection h with h; exact map_inj D2_inj _ _ h
def cube3 : List (List (List Int)) := [[[1,0,0],[0,1,0],[0,0,1]],[[0,1,0],[-1,0,0],[0,0,1]],[[-1,0,0],[0,-1,0],[0,0,1]],[[0,-1,0],[1,0,0],[0,0,1]],[[0,0,1],[0,1,0],[-1,0,0]],[[0,0,-1],[0,1,0],[1,0,0]]]
def cells0 (z : Int) : List Value := [.int .i64 z]
def cells1 (l : List Int) : List Value := l.flatMap cells0
def cells2 (l : List (List Int)) : List Value := l.flatMap cells1
def cells3 (l : List (List (List Int))) : List Value := l.flatMap cells2
theorem cells_cube : cells3 cube3 = cubeL.map (Value.int .i64) := rfl
section
variable {w : World} {base : Nat} {sp : Nat → Bool} {held : Bool}
theorem read0 (fuel : Nat) (cs : List Value) (d : DataW Unit) (p : List MemPlace) (h : DataW.trod (fun _ => ()) Tryz.prog w base sp held fuel 3 cs = some (d, p)) : ∃ z, cs = cells0 z ∧ d = D0 z := by
  obtain ⟨n, h1, h2, _⟩ := DataW.trod_int (show Tryz.prog.underlying 3 = some (.int .i64) by kernel_rfl) h
  injection h2 with h2
  exact ⟨n, h1, h2⟩
/-- An array [6][3][3]int, whatever its types' names. -/
theorem read3 {t1 t2 t3 : TypeId} (u1 : Tryz.prog.underlying t1 = some (.array 3 3)) (u2 : Tryz.prog.underlying t2 = some (.array 3 t1)) (u3 : Tryz.prog.underlying t3 = some (.array 6 t2))
    (c1 : Tryz.prog.cellsOf t1 = 3 * Tryz.prog.cellsOf 3) (c2 : Tryz.prog.cellsOf t2 = 3 * Tryz.prog.cellsOf t1) (c3 : Tryz.prog.cellsOf t3 = 6 * Tryz.prog.cellsOf t2)
    (fuel : Nat) (cs : List Value) (d : DataW Unit) (p : List MemPlace) (h : DataW.trod (fun _ => ()) Tryz.prog w base sp held fuel t3 cs = some (d, p)) : ∃ zs, cs = cells3 zs ∧ d = D3 zs :=
  trod_level cells2 D2 (fun _ _ _ _ h => trod_level cells1 D1 (fun _ _ _ _ h => trod_level cells0 D0 read0 u1 c1 _ _ _ _ h) u2 c2 _ _ _ _ h) u3 c3 _ _ _ _ h
end
/-- What the condition gives: the two tables' cells. -/
theorem table_of {W : World} {n : String} {g : Nat} {t1 t2 t3 : TypeId} {d : DataW Unit} (hg : Tryz.prog.globalNamed n = some g) (ht : (Tryz.prog.globals[g]?).map (·.type) = some t3)
    (u1 : Tryz.prog.underlying t1 = some (.array 3 3)) (u2 : Tryz.prog.underlying t2 = some (.array 3 t1)) (u3 : Tryz.prog.underlying t3 = some (.array 6 t2))
    (c1 : Tryz.prog.cellsOf t1 = 3 * Tryz.prog.cellsOf 3) (c2 : Tryz.prog.cellsOf t2 = 3 * Tryz.prog.cellsOf t1) (c3 : Tryz.prog.cellsOf t3 = 6 * Tryz.prog.cellsOf t2)
    (hd : d = D3 cube3) (h : Lib.VarReads Tryz.prog W n d) (j : Nat) : W.cell? ⟨g, j, none⟩ = (cubeL.map (Value.int .i64))[j]? := by
  obtain ⟨g0, t0, cs0, f0, p0, hg0, ht0, hv0, hd0⟩ := h
  obtain rfl := Option.some.inj (hg.symm.trans hg0)
  obtain rfl := Option.some.inj (ht.symm.trans ht0)
  obtain ⟨zs, k1, k2⟩ := read3 u1 u2 u3 c1 c2 c3 f0 _ _ _ hd0
  rw [hd] at k2
  have := D3_inj _ _ k2
  subst this
  rw [World.var?_cell hg0 hv0 j, ← Array.getElem?_toList, k1, cells_cube]
theorem tables {W : World} (h : laidMetH Tryz.prog [("tarn/cube.frames", Rows.laid_tarn_cube_frames), ("tarn/geom.frames", Rows.laid_tarn_geom_frames)] W) :
    (∀ j, W.cell? ⟨0, j, none⟩ = (cubeL.map (Value.int .i64))[j]?) ∧ ∀ j, W.cell? ⟨2, j, none⟩ = (cubeL.map (Value.int .i64))[j]? := by
  rw [MakeChecks.laidMetH_plain _ _ _ (by kernel_rfl)] at h
  exact ⟨table_of (by kernel_rfl) (by kernel_rfl) (t1 := 112) (t2 := 114) (t3 := 118) (by kernel_rfl) (by kernel_rfl) (by kernel_rfl) (by kernel_rfl) (by kernel_rfl) (by kernel_rfl) rfl (Lib.laidMet.reads h (.head _)),
    table_of (by kernel_rfl) (by kernel_rfl) (t1 := 111) (t2 := 162) (t3 := 163) (by kernel_rfl) (by kernel_rfl) (by kernel_rfl) (by kernel_rfl) (by kernel_rfl) (by kernel_rfl) rfl (Lib.laidMet.reads h (.tail _ (.head _)))⟩
theorem size_of_shaped {W : World} (h : W.ShapedOpen Tryz.prog) : 2 < W.heap.size := by
  obtain ⟨h1, _⟩ := h
  have h2 : (((begin Tryz.prog (fun _ _ => 0) default).world.heap[2]?).bind Obj.row?).isSome = true := by kernel_rfl
  obtain ⟨⟨zero, t⟩, h3⟩ := Option.isSome_iff_exists.mp h2
  obtain ⟨cs, h4, _⟩ := h1 2 zero t (of_decide_eq_true (by kernel_rfl)) h3
  exact (Array.getElem?_eq_some_iff.mp h4).1
theorem repB_tab {n : Nat} {g : Nat → Pl} {w : World} {k : Nat} (hk : k < w.heap.size) (h : ∀ j, w.cell? ⟨k, j, none⟩ = (cubeL.map (Value.int .i64))[j]?) : RepB n g w ⟨k, 0, 0, 0⟩ Gcube where
  size := hk
  cell := fun j v hv => by
    have hv : (cubeL.map (V.int .i64))[j]? = some v := hv
    rw [List.getElem?_map] at hv
    cases hc : cubeL[j]? with
    | none => rw [hc] at hv; exact nomatch hv
    | some z =>
      rw [hc] at hv
      injection hv with hv
      subst hv
      refine ⟨.int .i64 z, ?_, rfl⟩
      show w.cell? ⟨k, 0 + j, none⟩ = _
      rw [Nat.zero_add, h j, List.getElem?_map, hc]
      rfl
  free := fun h => nomatch h
  room := fun _ j hj => absurd hj (Nat.not_lt_zero j)
  map := fun f hf => nomatch hf
  ver := rfl
theorem ro_of {i : Nat} {b : Blk} (h : (GG [])[i]? = some b) : b.w = false := roM_get (m := GG []) (by kernel_rfl) h
theorem rep_of {W : World} (h : laidMetH Tryz.prog [("tarn/cube.frames", Rows.laid_tarn_cube_frames), ("tarn/geom.frames", Rows.laid_tarn_geom_frames)] W) (hs : W.ShapedOpen Tryz.prog) : Rep (fun i => ⟨i, 0, 0, 0⟩) (GG []) W where
  blk := fun i b hb => by
    have h2 := size_of_shaped hs
    obtain ⟨t1, t2⟩ := tables h
    match i, hb with
    | 0, hb => injection hb with hb; subst hb; first | exact repB_tab (by omega) t1 | exact repB_tab (by omega) t2 | exact ⟨(by show 0 < W.heap.size; omega), (fun j v hv => nomatch hv), (fun h => nomatch h), (fun _ j hj => absurd hj (Nat.not_lt_zero j)), (fun f hf => nomatch hf), rfl⟩
    | 1, hb => injection hb with hb; subst hb; first | exact repB_tab (by omega) t1 | exact repB_tab (by omega) t2 | exact ⟨(by show 1 < W.heap.size; omega), (fun j v hv => nomatch hv), (fun h => nomatch h), (fun _ j hj => absurd hj (Nat.not_lt_zero j)), (fun f hf => nomatch hf), rfl⟩
    | 2, hb => injection hb with hb; subst hb; first | exact repB_tab (by omega) t1 | exact repB_tab (by omega) t2 | exact ⟨(by show 2 < W.heap.size; omega), (fun j v hv => nomatch hv), (fun h => nomatch h), (fun _ j hj => absurd hj (Nat.not_lt_zero j)), (fun f hf => nomatch hf), rfl⟩
    | i + 3, hb => exact nomatch hb
  apart := fun i j b c _ hb _ hw _ _ => by rw [ro_of hb] at hw; cases hw
theorem nofoot {g : Nat → Pl} {p : Nat} : ¬ Foot g (GG []) p := by
  rintro ⟨i, b, hb, hw, _⟩
  rw [ro_of hb] at hw
  cases hw
/-- A law's contract, at a world that fits. -/
theorem calls_of {f : FuncId} (fn : Func) {args : List V} {xs : List Value} {W : World} (hf : Tryz.prog.funcs[f]? = some fn) (hp : plainFn fn = true) (hk : COk Tryz.prog 3 f args (GG []) (Bo true) (GG []))
    (h : laidMetH Tryz.prog [("tarn/cube.frames", Rows.laid_tarn_cube_frames), ("tarn/geom.frames", Rows.laid_tarn_geom_frames)] W) (hs : W.ShapedOpen Tryz.prog)
    (ha : Rvs 3 (fun i => ⟨i, 0, 0, 0⟩) args xs) : Calls Tryz.prog f xs.toArray W fun e W' => e = .returned (.bool true) ∧ Below W.heap.size W W' := by
  have key := hk (fun i => ⟨i, 0, 0, 0⟩) W xs ⟨Nat.le_refl 3, fun i _ => rfl⟩ (rep_of h hs) ha
  simp only [plainFn, Bool.and_eq_true, bne_iff_ne, ne_eq, Option.isSome_iff_exists] at hp
  obtain ⟨h1, c, h2⟩ := hp
  have e : (callFunc f xs.toArray).run Tryz.prog W = .ok (.enter f xs.toArray) W := by simp [callFunc, hf, h1, h2]
  rw [e] at key
  refine key.mono ?_
  rintro e W' ⟨g', x, rfl, hx, _, st⟩
  have hx : x = .bool true := hx
  subst hx
  exact ⟨rfl, st.os, st.tape, st.output, st.size, fun k hk => st.same k hk nofoot⟩
end Go.Proofs.YtemaeembndobaaaGreatDoor
