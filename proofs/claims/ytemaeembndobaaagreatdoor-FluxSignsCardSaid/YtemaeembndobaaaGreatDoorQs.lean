/- Slices of floats among a law's arguments. No condition. -/
import Derived.Test.YtemaeembndobaaaGreatDoorQm
import Derived.Laws.Cover2
namespace Go.Proofs.YtemaeembndobaaaGreatDoor
open Go Go.Eng Go.ChangeShapes Go.WideShapes Go.RowKit
set_option maxRecDepth 100000
set_option linter.unusedSimpArgs false
set_option linter.unusedVariables false

/-- A float of 64 bits. -/
abbrev inF (b : Nat) : Prop := b < 18446744073709551616
theorem wf64 {b : Nat} (h : (Lit.float .f64 b).wf = true) : inF b := by
  simpa [Lit.wf] using h
/-- Floats that are read. -/
structure SlF (M : List Blk) (j o : Nat) (l : List Nat) : Prop where
  rd : ∀ i, i < l.length → ∀ K : V → Prop, K (F (l.getD i 0)) → rd1 (getB M j).b (o + i) K
  live : (getB M j).b.live = true
  wf : ∀ i, i < l.length → inF (l.getD i 0)
  short : l.length < 4611686018427387904
theorem SlF.app {M : List Blk} {j o : Nat} {l : List Nat} (h : SlF M j o l) (x : List Blk) : SlF (M ++ x) j o l := by
  have e : getB (M ++ x) j = getB M j := getB_in rfl h.live
  exact ⟨by rw [e]; exact h.rd, by rw [e]; exact h.live, h.wf, h.short⟩
theorem SlF.up {M M' : List Blk} {j o : Nat} {l : List Nat} (h : SlF M j o l) (u : Up M M') : SlF M' j o l := by
  obtain ⟨x, rfl⟩ := u.ex; exact h.app x
theorem SlF.lt {M : List Blk} {j o : Nat} {l : List Nat} (h : SlF M j o l) : j < M.length := getB_lt rfl h.live
theorem SlF.at {M : List Blk} {j o : Nat} {l : List Nat} (h : SlF M j o l) {i off : Nat} {K : V → Prop} (hi : i < l.length) (ho : off = o + i * 1) (hk : K (F (l.getD i 0))) : rd1 (getB M j).b off K := by
  rw [Nat.mul_one] at ho; subst ho; exact h.rd i hi K hk
theorem SlF.flts {M : List Blk} {j o : Nat} {w : Bool} {L l : List Nat} (h : getB M j = ⟨w, .flts L⟩) (hl : ∀ i, i < l.length → o + i < L.length ∧ L.getD (o + i) 0 = l.getD i 0) (hw : ∀ i, i < l.length → inF (l.getD i 0)) (hs : l.length < 4611686018427387904) : SlF M j o l :=
  ⟨fun i hi K hk => by
    rw [h]
    obtain ⟨h1, h2⟩ := hl i hi
    show br (Nat.blt (o + i) L.length) (K (.fl (some (L.getD (o + i) 0)))) False
    rw [show Nat.blt (o + i) L.length = true by simpa [Nat.blt_eq] using h1, h2]
    exact hk, by rw [h]; rfl, hw, hs⟩
def SliF (M : List Blk) (v : V) (l : List Nat) : Prop := (v = .raw (.slice none 0 0) ∧ l = []) ∨ ∃ j o, v = .sl j o l.length ∧ SlF M j o l
theorem SliF.app {M : List Blk} {v : V} {l : List Nat} (h : SliF M v l) (x : List Blk) : SliF (M ++ x) v l := by
  rcases h with h | ⟨j, o, h1, h2⟩
  · exact .inl h
  · exact .inr ⟨j, o, h1, h2.app x⟩
theorem SliF.up {M M' : List Blk} {v : V} {l : List Nat} (h : SliF M v l) (u : Up M M') : SliF M' v l := by
  obtain ⟨x, rfl⟩ := u.ex; exact h.app x
theorem SliF.wf {M : List Blk} {v : V} {l : List Nat} (h : SliF M v l) : (∀ i, i < l.length → inF (l.getD i 0)) ∧ l.length < 4611686018427387904 := by
  rcases h with ⟨_, rfl⟩ | ⟨j, o, _, h⟩
  · exact ⟨fun i hi => absurd hi (Nat.not_lt_zero i), by decide⟩
  · exact ⟨h.wf, h.short⟩
theorem SliF.of {M : List Blk} {j o : Nat} {l : List Nat} (h : SlF M j o l) : SliF M (.sl j o l.length) l := .inr ⟨j, o, rfl, h⟩
section
variable {H : Type} {enc : TypeId × Value → H} {P : Program} {w : World} {base : Nat} {spare : Nat → Bool} {held : Bool}
def flits (l : List Nat) : List (DataW H) := l.map fun b => .lit (.float .f64 b)
def bitsOf (y : DataW H × List MemPlace) : Nat := match y.1 with
  | .lit (.float _ b) => b
  | _ => 0
theorem trod_float {t : TypeId} {fuel : Nat} {cs : List Value} {x : DataW H × List MemPlace} (ht : P.underlying t = some (.float .f64)) (h : DataW.trod enc P w base spare held fuel t cs = some x) : ∃ b, cs = [.float .f64 b] ∧ x = (.lit (.float .f64 b), []) ∧ (Lit.float .f64 b).wf = true := by
  cases fuel with
  | zero => simp [DataW.trod] at h
  | succ n =>
    unfold DataW.trod at h
    rw [ht] at h
    split at h <;> simp_all
theorem open_flts {t e : TypeId} {fuel : Nat} {cs : List Value} {x : DataW H × List MemPlace} (ht : P.underlying t = some (.slice e)) (he : P.underlying e = some (.float .f64)) (hc : P.cellsOf e = 1)
    (h : DataW.trod enc P w base spare held fuel t cs = some x) :
    (cs = [.slice none 0 0] ∧ x = (.nil, [])) ∨
    ∃ (a : Addr) (len cap : Nat) (zs : List Nat), cs = [.slice (some a) len cap] ∧ base ≤ a.block ∧ len ≤ cap ∧ cap ≤ maxLen ∧ zs.length = (if spare a.block then cap else len) ∧
      x = (.slice (flits (zs.take len)) (flits (zs.drop len)), MemPlace.row a zs.length) ∧
      (∀ i, i < zs.length → w.cell? (a.add i) = some (.float .f64 (zs.getD i 0))) ∧ (∀ n ∈ zs, (Lit.float .f64 n).wf = true) := by
  rcases DataW.trod_slice ht h with h0 | ⟨a, len, cap, elems, rest, n, _, rfl, rfl, hb, hl, hm, hlen, hel, hsp, hns⟩
  · exact Or.inl h0
  right
  have each : ∀ i y, (elems ++ rest)[i]? = some y → y = (.lit (.float .f64 (bitsOf y)), []) ∧ (Lit.float .f64 (bitsOf y)).wf = true ∧ w.cell? (a.add i) = some (.float .f64 (bitsOf y)) := by
    intro i y hy
    have hb' : (w.cells? base (a.add (i * P.cellsOf e)) (P.cellsOf e)).bind (DataW.trod enc P w base spare held n e) = some y := by
      by_cases hi : i < len
      · rw [hel i hi, ← hy, List.getElem?_append_left (by omega)]
      · have hi' : i - len < rest.length := by
          have := (List.getElem?_eq_some_iff.1 hy).1
          simp at this
          omega
        cases hs : spare a.block with
        | false => rw [hns hs] at hi'; simp at hi'
        | true =>
          obtain ⟨hrl, hr⟩ := hsp hs
          have := hr (i - len) (by omega)
          rw [show len + (i - len) = i by omega] at this
          rw [this, ← hy, List.getElem?_append_right (by omega), hlen]
    rw [hc, Nat.mul_one, Option.bind_eq_some_iff] at hb'
    obtain ⟨cs', hcs, hy'⟩ := hb'
    obtain ⟨m, rfl, rfl, hw⟩ := trod_float he hy'
    exact ⟨rfl, hw, cell_of_cells?_one hcs⟩
  have mem : ∀ y ∈ elems ++ rest, y = (.lit (.float .f64 (bitsOf y)), []) ∧ (Lit.float .f64 (bitsOf y)).wf = true := by
    intro y hy
    obtain ⟨i, hi⟩ := List.getElem?_of_mem hy
    exact ⟨(each i y hi).1, (each i y hi).2.1⟩
  refine ⟨a, len, cap, (elems ++ rest).map bitsOf, rfl, hb, hl, hm, ?_, ?_, ?_, ?_⟩
  · simp only [List.length_map, List.length_append, hlen]
    cases hs : spare a.block with
    | false => simp [hns hs]
    | true => simp [(hsp hs).1]; omega
  · have e1 : ((elems ++ rest).map bitsOf).take len = elems.map bitsOf := by rw [← List.map_take, ← hlen, List.take_left]
    have e2 : ((elems ++ rest).map bitsOf).drop len = rest.map bitsOf := by rw [← List.map_drop, ← hlen, List.drop_left]
    have f1 : ∀ l : List (DataW H × List MemPlace), (∀ y ∈ l, y ∈ elems ++ rest) → l.map (·.1) = flits (l.map bitsOf) := by
      intro l hl'
      simp only [flits, List.map_map]
      exact List.map_congr_left (fun y hy => by
        have := (mem y (hl' y hy)).1
        exact congrArg Prod.fst this)
    have f2 : (elems ++ rest).flatMap (·.2) = [] := by
      rw [List.flatMap_eq_nil_iff]
      intro y hy
      exact congrArg Prod.snd (mem y hy).1
    rw [e1, e2, f1 elems (fun y hy => by simp [hy]), f1 rest (fun y hy => by simp [hy]), f2, hc]
    simp
  · intro i hi
    simp only [List.length_map] at hi
    have hy : (elems ++ rest)[i]? = some ((elems ++ rest)[i]'hi) := List.getElem?_eq_getElem hi
    have := (each i _ hy).2.2
    have e : ((elems ++ rest).map bitsOf).getD i 0 = bitsOf ((elems ++ rest)[i]'hi) := by rw [List.getD, List.getElem?_map, hy]; rfl
    rw [this, e]
  · intro m hm'
    obtain ⟨y, hy, rfl⟩ := List.mem_map.1 hm'
    exact (mem y hy).2
theorem bulk_flits : ∀ l : List Nat, l.length ≤ Rows.uptoBulkAll (flits (H := H) l)
  | [] => Nat.zero_le _
  | a :: l => by
    have h := bulk_flits l
    show l.length + 1 ≤ Rows.uptoBulk (DataW.lit (.float .f64 a)) + Rows.uptoBulkAll (flits (H := H) l)
    have h1 : Rows.uptoBulk (H := H) (DataW.lit (.float .f64 a)) = 1 := rfl
    omega
theorem bulk_sliceF (l r : List Nat) : l.length ≤ Rows.uptoBulk (DataW.slice (flits (H := H) l) (flits r)) := by
  have h := bulk_flits (H := H) l
  show l.length ≤ Rows.uptoBulkAll (flits (H := H) l) + Rows.uptoBulkAll (flits r) + 1
  omega
end
section
variable {H : Type} {enc : TypeId × Value → H}
theorem lay_flts {W : World} {z : List Blk} {g : Nat → Pl} (h : Lay W z g) {t e : TypeId} {fuel : Nat} {x : Value} {d : DataW H} {ps : List MemPlace} {sp : Nat → Bool} {held : Bool} (ht : Tryz.prog.underlying t = some (.slice e)) (he : Tryz.prog.underlying e = some (.float .f64)) (hc : Tryz.prog.cellsOf e = 1) (hb : Tryz.prog.bytesOf e = 8)
    (hr : DataW.trod enc Tryz.prog W 0 sp held fuel t [x] = some (d, ps)) (hsz : (d.weights Tryz.prog t).all (· ≤ reachBytes) = true) :
    ∃ b v l g', Lay W (z ++ [b]) g' ∧ (∀ i, i < (GG z).length → g' i = g i) ∧ SliF (GG (z ++ [b])) v l ∧ Rv (GG (z ++ [b])).length g' v x ∧ l.length ≤ 17592186044416 ∧ l.length ≤ Rows.uptoBulk d := by
  have hlen := h.len
  have hnil : ∀ (b : Blk) , b = ⟨false, .flts []⟩ → RepB ((GG z).length + 1) (newAtP g (GG z).length ⟨0, 0, 0, 0⟩) W ⟨0, 0, 0, 0⟩ b := fun b hb => by
    subst hb
    exact ⟨hlen, (fun j v hv => by simp [B.get] at hv), (fun h => nomatch h), (fun _ j hj => absurd hj (Nat.not_lt_zero j)), (fun f hf => nomatch hf), rfl⟩
  rcases open_flts ht he hc hr with ⟨h1, h2⟩ | ⟨a, len, cap, zs, h1, _, hlc, _, hzl, h2, hcell, hwf⟩
  · injection h1 with h1
    exact ⟨⟨false, .flts []⟩, .raw (.slice none 0 0), [], _, h.snoc _ ⟨0, 0, 0, 0⟩ rfl (hnil _ rfl) rfl, newAtP_old g _ _, .inl ⟨rfl, rfl⟩, h1, Nat.zero_le _, Nat.zero_le _⟩
  · injection h1 with h1
    have hd : d = .slice (flits (zs.take len)) (flits (zs.drop len)) := congrArg Prod.fst h2
    have hlz : len ≤ zs.length := by rw [hzl]; split <;> omega
    have hle : len ≤ 17592186044416 := by
      rw [hd] at hsz
      unfold DataW.weights at hsz
      rw [ht] at hsz
      simp only [List.all_cons, Bool.and_eq_true, decide_eq_true_eq, hb, flits, List.length_map, List.length_take, List.length_drop] at hsz
      have : reachBytes = 140737488351232 := rfl
      omega
    have htl : (zs.take len).length = len := by rw [List.length_take]; omega
    have hbulk : (zs.take len).length ≤ Rows.uptoBulk d := by
      rw [hd]; exact bulk_sliceF _ _
    rcases Nat.eq_zero_or_pos len with rfl | hpos
    · refine ⟨⟨false, .flts []⟩, .sl (GG z).length 0 0, [], _, h.snoc _ ⟨0, 0, 0, 0⟩ rfl (hnil _ rfl) rfl, newAtP_old g _ _, .inr ⟨_, _, rfl, ?_⟩, ?_, Nat.zero_le _, Nat.zero_le _⟩
      · refine SlF.flts (L := []) (w := false) ?_ (fun i hi => absurd hi (Nat.not_lt_zero i)) (fun i hi => absurd hi (Nat.not_lt_zero i)) (by decide)
        exact getB_app0 (M := GG z)
      · refine ⟨by simp, by simp [newAtP], some a, cap, h1, hlc, fun h => absurd h (Nat.lt_irrefl 0)⟩
    · have h0 := hcell 0 (by omega)
      have hspot : a.spot = none := by
        unfold World.cell? at h0
        have : a.add 0 = a := rfl
        rw [this] at h0
        split at h0
        · split at h0
          · exact absurd h0 (by simp)
          · rename_i hs; simpa using hs
        · exact absurd h0 (by simp)
      obtain ⟨ab, ao, asp⟩ := a
      simp only at hspot
      subst hspot
      have hadd : ∀ i, (Addr.mk ab ao none).add i = ⟨ab, ao + i, none⟩ := by
        intro i; unfold Addr.add
        split
        · rename_i h; subst h; rfl
        · rfl
      have hsize : ab < W.heap.size := by
        unfold World.cell? at h0
        rw [hadd] at h0
        simp only at h0
        split at h0
        · rename_i he; exact (Array.getElem?_eq_some_iff.1 he).1
        · exact absurd h0 (by simp)
      refine ⟨⟨false, .flts (zs.take len)⟩, .sl (GG z).length 0 (zs.take len).length, zs.take len, _, h.snoc _ ⟨ab, ao, 0, 0⟩ rfl ?_ rfl, newAtP_old g _ _, .inr ⟨_, _, rfl, ?_⟩, ?_, by omega, hbulk⟩
      · refine ⟨hsize, fun j v hv => ?_, (fun h => nomatch h), (fun _ j hj => absurd hj (Nat.not_lt_zero j)), (fun f hf => nomatch hf), rfl⟩
        have hv : ((zs.take len)[j]?).map (fun b => V.fl (some b)) = some v := hv
        obtain ⟨y, hy, rfl⟩ := Option.map_eq_some_iff.1 hv
        have hj : j < len := by
          have := (List.getElem?_eq_some_iff.1 hy).1; omega
        refine ⟨.float .f64 y, ?_, ⟨y, rfl, rfl⟩⟩
        have := hcell j (by omega)
        rw [hadd] at this
        rw [List.getElem?_take, if_pos hj] at hy
        show W.cell? ⟨ab, ao + j, none⟩ = _
        rw [this, List.getD_eq_getElem?_getD, hy]; rfl
      · refine SlF.flts (L := zs.take len) (w := false) (getB_app0 (M := GG z)) (fun i hi => ⟨by omega, by rw [Nat.zero_add]⟩) (fun i hi => ?_) (by omega)
        rw [List.getD_eq_getElem?_getD, List.getElem?_eq_getElem hi]
        exact wf64 (hwf _ (List.mem_of_mem_take (List.getElem_mem hi)))
      · refine ⟨by simp, by simp [newAtP], some ⟨ab, ao, none⟩, cap, by rw [htl]; exact h1, by omega, fun _ => by simp [newAtP]⟩
end
end Go.Proofs.YtemaeembndobaaaGreatDoor
