/- Seas among a law's arguments: each list in a block of its own. No condition. -/
import Derived.Test.YtemaeembndobaaaGreatDoorQs
namespace Go.Proofs.YtemaeembndobaaaGreatDoor
open Go Go.Eng Go.ChangeShapes Go.WideShapes Go.RowKit
set_option maxRecDepth 100000
set_option linter.unusedSimpArgs false
set_option linter.unusedVariables false

/-- A sea's lists, each in a block of its own. -/
structure SeaB (M : List Blk) (w : Bool) (j0 j1 j2 j3 : Nat) (bed : List Nat) (water tracer : List Int) (speed : List Nat) : Prop where
  b0 : getB M j0 = ⟨w, .flts bed⟩
  b1 : getB M j1 = ⟨w, .ints .i64 water⟩
  b2 : getB M j2 = ⟨w, .ints .i64 tracer⟩
  b3 : getB M j3 = ⟨w, .flts speed⟩
  f0 : ∀ i, i < bed.length → inF (bed.getD i 0)
  f1 : ∀ i, i < water.length → in64 (water.getD i 0)
  f2 : ∀ i, i < tracer.length → in64 (tracer.getD i 0)
  f3 : ∀ i, i < speed.length → inF (speed.getD i 0)
  l0 : bed.length ≤ 17592186044416
  l1 : water.length ≤ 17592186044416
  l2 : tracer.length ≤ 17592186044416
  l3 : speed.length ≤ 17592186044416
/-- A sea's lists that are read. -/
structure SeaR (M : List Blk) (j0 j1 j2 j3 : Nat) (bed : List Nat) (water tracer : List Int) (speed : List Nat) : Prop where
  s0 : SlF M j0 0 bed
  s1 : SlI M j1 0 water
  s2 : SlI M j2 0 tracer
  s3 : SlF M j3 0 speed
section
variable {M M' : List Blk} {w : Bool} {j0 j1 j2 j3 : Nat} {bed : List Nat} {water tracer : List Int} {speed : List Nat}
theorem SeaB.app (h : SeaB M w j0 j1 j2 j3 bed water tracer speed) (x : List Blk) : SeaB (M ++ x) w j0 j1 j2 j3 bed water tracer speed :=
  ⟨getB_in h.b0 rfl, getB_in h.b1 rfl, getB_in h.b2 rfl, getB_in h.b3 rfl, h.f0, h.f1, h.f2, h.f3, h.l0, h.l1, h.l2, h.l3⟩
theorem SeaB.up (h : SeaB M w j0 j1 j2 j3 bed water tracer speed) (u : Up M M') : SeaB M' w j0 j1 j2 j3 bed water tracer speed := by
  obtain ⟨x, rfl⟩ := u.ex; exact h.app x
theorem SeaR.app (h : SeaR M j0 j1 j2 j3 bed water tracer speed) (x : List Blk) : SeaR (M ++ x) j0 j1 j2 j3 bed water tracer speed :=
  ⟨h.s0.app x, h.s1.app x, h.s2.app x, h.s3.app x⟩
theorem SeaR.up (h : SeaR M j0 j1 j2 j3 bed water tracer speed) (u : Up M M') : SeaR M' j0 j1 j2 j3 bed water tracer speed := by
  obtain ⟨x, rfl⟩ := u.ex; exact h.app x
theorem SlF.whole {j : Nat} {l : List Nat} (h : getB M j = ⟨w, .flts l⟩) (hw : ∀ i, i < l.length → inF (l.getD i 0)) (hs : l.length ≤ 17592186044416) : SlF M j 0 l :=
  SlF.flts h (fun i hi => ⟨by omega, by rw [Nat.zero_add]⟩) hw (by omega)
theorem SlI.whole {j : Nat} {l : List Int} (h : getB M j = ⟨w, .ints .i64 l⟩) (hw : ∀ i, i < l.length → in64 (l.getD i 0)) (hs : l.length ≤ 17592186044416) : SlI M j 0 l :=
  SlI.ints h (fun i hi => ⟨by omega, by rw [Nat.zero_add]⟩) hw (by omega)
theorem SeaB.read (h : SeaB M w j0 j1 j2 j3 bed water tracer speed) : SeaR M j0 j1 j2 j3 bed water tracer speed :=
  ⟨SlF.whole h.b0 h.f0 h.l0, SlI.whole h.b1 h.f1 h.l1, SlI.whole h.b2 h.f2 h.l2, SlF.whole h.b3 h.f3 h.l3⟩
end
/-- A sea by its lists' blocks and lengths. -/
abbrev seaV (j0 j1 j2 j3 a b c d : Nat) (sky step : Int) : V := .agg [.sl j0 0 a, .sl j1 0 b, .sl j2 0 c, .sl j3 0 d, .int .i64 sky, I step]
theorem GG_app (z y : List Blk) : GG (z ++ y) = GG z ++ y := rfl
section
variable {H : Type} {enc : TypeId × Value → H}
theorem lay_intsB {W : World} {z : List Blk} {g : Nat → Pl} (h : Lay W z g) {t e : TypeId} {fuel : Nat} {x : Value} {d : DataW H} {ps : List MemPlace} {sp : Nat → Bool} {held : Bool} (ht : Tryz.prog.underlying t = some (.slice e)) (he : Tryz.prog.underlying e = some (.int .i64)) (hc : Tryz.prog.cellsOf e = 1) (hb : Tryz.prog.bytesOf e = 8)
    (hr : DataW.trod enc Tryz.prog W 0 sp held fuel t [x] = some (d, ps)) (hsz : (d.weights Tryz.prog t).all (· ≤ reachBytes) = true) :
    ∃ l g', Lay W (z ++ [⟨false, .ints .i64 l⟩]) g' ∧ (∀ i, i < (GG z).length → g' i = g i) ∧ Rv (GG (z ++ [⟨false, .ints .i64 l⟩])).length g' (.sl (GG z).length 0 l.length) x ∧ (∀ i, i < l.length → in64 (l.getD i 0)) ∧ l.length ≤ 17592186044416 := by
  have hlen := h.len
  have hnil : ∀ (b : Blk) , b = ⟨false, .ints .i64 []⟩ → RepB ((GG z).length + 1) (newAtP g (GG z).length ⟨0, 0, 0, 0⟩) W ⟨0, 0, 0, 0⟩ b := fun b hb => by
    subst hb
    exact ⟨hlen, (fun j v hv => by simp [B.get] at hv), (fun h => nomatch h), (fun _ j hj => absurd hj (Nat.not_lt_zero j)), (fun f hf => nomatch hf), rfl⟩
  rcases open_ints ht he hc hr with ⟨h1, h2⟩ | ⟨a, len, cap, zs, h1, _, hlc, _, hzl, h2, hcell, hwf⟩
  · injection h1 with h1
    exact ⟨[], _, h.snoc _ ⟨0, 0, 0, 0⟩ rfl (hnil _ rfl) rfl, newAtP_old g _ _, ⟨by simp, by simp [newAtP], none, 0, h1, Nat.le_refl _, fun h => absurd h (Nat.lt_irrefl 0)⟩, fun i hi => absurd hi (Nat.not_lt_zero i), Nat.zero_le _⟩
  · injection h1 with h1
    have hd : d = .slice (lits .i64 (zs.take len)) (lits .i64 (zs.drop len)) := congrArg Prod.fst h2
    have hlz : len ≤ zs.length := by rw [hzl]; split <;> omega
    have hle : len ≤ 17592186044416 := by
      rw [hd] at hsz
      unfold DataW.weights at hsz
      rw [ht] at hsz
      simp only [List.all_cons, Bool.and_eq_true, decide_eq_true_eq, hb, lits, List.length_map, List.length_take, List.length_drop] at hsz
      have : reachBytes = 140737488351232 := rfl
      omega
    have htl : (zs.take len).length = len := by rw [List.length_take]; omega
    rcases Nat.eq_zero_or_pos len with rfl | hpos
    · exact ⟨[], _, h.snoc _ ⟨0, 0, 0, 0⟩ rfl (hnil _ rfl) rfl, newAtP_old g _ _, ⟨by simp, by simp [newAtP], some a, cap, h1, hlc, fun h => absurd h (Nat.lt_irrefl 0)⟩, fun i hi => absurd hi (Nat.not_lt_zero i), Nat.zero_le _⟩
    · have h0 := hcell 0 (by omega)
      have hspot : a.spot = none := by
        unfold World.cell? at h0
        have : a.add 0 = a := rfl
        rw [this] at h0
        split at h0
        · split at h0
          · exact absurd h0 (by simp)
          · rename_i hs; simpa using hs
        · exact absurd h0 (by simp)
      obtain ⟨ab, ao, asp⟩ := a
      simp only at hspot
      subst hspot
      have hadd : ∀ i, (Addr.mk ab ao none).add i = ⟨ab, ao + i, none⟩ := by
        intro i; unfold Addr.add
        split
        · rename_i h; subst h; rfl
        · rfl
      have hsize : ab < W.heap.size := by
        unfold World.cell? at h0
        rw [hadd] at h0
        simp only at h0
        split at h0
        · rename_i he; exact (Array.getElem?_eq_some_iff.1 he).1
        · exact absurd h0 (by simp)
      refine ⟨zs.take len, _, h.snoc _ ⟨ab, ao, 0, 0⟩ rfl ?_ rfl, newAtP_old g _ _, ?_, fun i hi => ?_, by omega⟩
      · refine ⟨hsize, fun j v hv => ?_, (fun h => nomatch h), (fun _ j hj => absurd hj (Nat.not_lt_zero j)), (fun f hf => nomatch hf), rfl⟩
        have hv : ((zs.take len)[j]?).map (V.int .i64) = some v := hv
        obtain ⟨y, hy, rfl⟩ := Option.map_eq_some_iff.1 hv
        have hj : j < len := by
          have := (List.getElem?_eq_some_iff.1 hy).1; omega
        refine ⟨.int .i64 y, ?_, rfl⟩
        have := hcell j (by omega)
        rw [hadd] at this
        rw [List.getElem?_take, if_pos hj] at hy
        show W.cell? ⟨ab, ao + j, none⟩ = _
        rw [this, List.getD_eq_getElem?_getD, hy]; rfl
      · refine ⟨by simp, by simp [newAtP], some ⟨ab, ao, none⟩, cap, by rw [htl]; exact h1, by omega, fun _ => by simp [newAtP]⟩
      · rw [List.getD_eq_getElem?_getD, List.getElem?_eq_getElem hi]
        exact in64_wf (hwf _ (List.mem_of_mem_take (List.getElem_mem hi)))
theorem lay_fltsB {W : World} {z : List Blk} {g : Nat → Pl} (h : Lay W z g) {t e : TypeId} {fuel : Nat} {x : Value} {d : DataW H} {ps : List MemPlace} {sp : Nat → Bool} {held : Bool} (ht : Tryz.prog.underlying t = some (.slice e)) (he : Tryz.prog.underlying e = some (.float .f64)) (hc : Tryz.prog.cellsOf e = 1) (hb : Tryz.prog.bytesOf e = 8)
    (hr : DataW.trod enc Tryz.prog W 0 sp held fuel t [x] = some (d, ps)) (hsz : (d.weights Tryz.prog t).all (· ≤ reachBytes) = true) :
    ∃ l g', Lay W (z ++ [⟨false, .flts l⟩]) g' ∧ (∀ i, i < (GG z).length → g' i = g i) ∧ Rv (GG (z ++ [⟨false, .flts l⟩])).length g' (.sl (GG z).length 0 l.length) x ∧ (∀ i, i < l.length → inF (l.getD i 0)) ∧ l.length ≤ 17592186044416 := by
  have hlen := h.len
  have hnil : ∀ (b : Blk) , b = ⟨false, .flts []⟩ → RepB ((GG z).length + 1) (newAtP g (GG z).length ⟨0, 0, 0, 0⟩) W ⟨0, 0, 0, 0⟩ b := fun b hb => by
    subst hb
    exact ⟨hlen, (fun j v hv => by simp [B.get] at hv), (fun h => nomatch h), (fun _ j hj => absurd hj (Nat.not_lt_zero j)), (fun f hf => nomatch hf), rfl⟩
  rcases open_flts ht he hc hr with ⟨h1, h2⟩ | ⟨a, len, cap, zs, h1, _, hlc, _, hzl, h2, hcell, hwf⟩
  · injection h1 with h1
    exact ⟨[], _, h.snoc _ ⟨0, 0, 0, 0⟩ rfl (hnil _ rfl) rfl, newAtP_old g _ _, ⟨by simp, by simp [newAtP], none, 0, h1, Nat.le_refl _, fun h => absurd h (Nat.lt_irrefl 0)⟩, fun i hi => absurd hi (Nat.not_lt_zero i), Nat.zero_le _⟩
  · injection h1 with h1
    have hd : d = .slice (flits (zs.take len)) (flits (zs.drop len)) := congrArg Prod.fst h2
    have hlz : len ≤ zs.length := by rw [hzl]; split <;> omega
    have hle : len ≤ 17592186044416 := by
      rw [hd] at hsz
      unfold DataW.weights at hsz
      rw [ht] at hsz
      simp only [List.all_cons, Bool.and_eq_true, decide_eq_true_eq, hb, flits, List.length_map, List.length_take, List.length_drop] at hsz
      have : reachBytes = 140737488351232 := rfl
      omega
    have htl : (zs.take len).length = len := by rw [List.length_take]; omega
    rcases Nat.eq_zero_or_pos len with rfl | hpos
    · exact ⟨[], _, h.snoc _ ⟨0, 0, 0, 0⟩ rfl (hnil _ rfl) rfl, newAtP_old g _ _, ⟨by simp, by simp [newAtP], some a, cap, h1, hlc, fun h => absurd h (Nat.lt_irrefl 0)⟩, fun i hi => absurd hi (Nat.not_lt_zero i), Nat.zero_le _⟩
    · have h0 := hcell 0 (by omega)
      have hspot : a.spot = none := by
        unfold World.cell? at h0
        have : a.add 0 = a := rfl
        rw [this] at h0
        split at h0
        · split at h0
          · exact absurd h0 (by simp)
          · rename_i hs; simpa using hs
        · exact absurd h0 (by simp)
      obtain ⟨ab, ao, asp⟩ := a
      simp only at hspot
      subst hspot
      have hadd : ∀ i, (Addr.mk ab ao none).add i = ⟨ab, ao + i, none⟩ := by
        intro i; unfold Addr.add
        split
        · rename_i h; subst h; rfl
        · rfl
      have hsize : ab < W.heap.size := by
        unfold World.cell? at h0
        rw [hadd] at h0
        simp only at h0
        split at h0
        · rename_i he; exact (Array.getElem?_eq_some_iff.1 he).1
        · exact absurd h0 (by simp)
      refine ⟨zs.take len, _, h.snoc _ ⟨ab, ao, 0, 0⟩ rfl ?_ rfl, newAtP_old g _ _, ?_, fun i hi => ?_, by omega⟩
      · refine ⟨hsize, fun j v hv => ?_, (fun h => nomatch h), (fun _ j hj => absurd hj (Nat.not_lt_zero j)), (fun f hf => nomatch hf), rfl⟩
        have hv : ((zs.take len)[j]?).map (fun b => V.fl (some b)) = some v := hv
        obtain ⟨y, hy, rfl⟩ := Option.map_eq_some_iff.1 hv
        have hj : j < len := by
          have := (List.getElem?_eq_some_iff.1 hy).1; omega
        refine ⟨.float .f64 y, ?_, ⟨y, rfl, rfl⟩⟩
        have := hcell j (by omega)
        rw [hadd] at this
        rw [List.getElem?_take, if_pos hj] at hy
        show W.cell? ⟨ab, ao + j, none⟩ = _
        rw [this, List.getD_eq_getElem?_getD, hy]; rfl
      · refine ⟨by simp, by simp [newAtP], some ⟨ab, ao, none⟩, cap, by rw [htl]; exact h1, by omega, fun _ => by simp [newAtP]⟩
      · rw [List.getD_eq_getElem?_getD, List.getElem?_eq_getElem hi]
        exact wf64 (hwf _ (List.mem_of_mem_take (List.getElem_mem hi)))
/-- A struct whose fields take one cell each, by its cells. -/
theorem open_cells {W : World} {t : TypeId} {fs : Array Field} {ts : List (TypeId × Nat)} {base fuel : Nat} {sp : Nat → Bool} {held : Bool} {l : List Value} {d : DataW H} {ps : List MemPlace} (hu : Tryz.prog.underlying t = some (.struct fs)) (hts : fs.toList.map (fun f => (f.type, f.offset)) = ts)
    (hc : Tryz.prog.cellsOf t = ts.length) (h1 : ∀ (i : Nat) (p : TypeId × Nat), ts[i]? = some p → p.2 = i ∧ Tryz.prog.cellsOf p.1 = 1) (h : DataW.trod enc Tryz.prog W base sp held fuel t l = some (d, ps)) :
    ∃ (ds : List (DataW H)), d = .agg ds ∧ l.length = ts.length ∧ ds.length = ts.length ∧ (d.weights Tryz.prog t = DataW.weightsEach Tryz.prog (ts.map (·.1)) ds) ∧
      ∀ (i : Nat) (p : TypeId × Nat), ts[i]? = some p → ∃ x e fuel q, l[i]? = some x ∧ ds[i]? = some e ∧ DataW.trod enc Tryz.prog W base sp held fuel p.1 [x] = some (e, q) := by
  obtain ⟨xs, n, rfl, hx, hlen, hn, hel⟩ := DataW.trod_struct hu h
  have hd : d = .agg (xs.map (·.1)) := congrArg Prod.fst hx
  have hl : l.length = ts.length := by rw [← hc]; exact hlen
  have hfl : fs.size = ts.length := by
    have := congrArg List.length hts
    simpa using this
  refine ⟨xs.map (·.1), hd, hl, by rw [List.length_map, hn, hfl], ?_, fun i p hp => ?_⟩
  · rw [hd]
    unfold DataW.weights
    rw [hu]
    simp only
    congr 1
    rw [← hts, List.map_map]
    rfl
  · obtain ⟨e1, e2⟩ := h1 i p hp
    have hi : i < ts.length := (List.getElem?_eq_some_iff.1 hp).1
    have hf : ∃ f, fs[i]? = some f ∧ (f.type, f.offset) = p := by
      rw [← hts, List.getElem?_map] at hp
      obtain ⟨f, hf, he⟩ := Option.map_eq_some_iff.1 hp
      exact ⟨f, by rw [← Array.getElem?_toList]; exact hf, he⟩
    obtain ⟨f, hf, he⟩ := hf
    have h3 := hel i f hf
    have et : f.type = p.1 := by rw [← he]
    have eo : f.offset = i := by rw [← e1, ← he]
    rw [et, eo, e2] at h3
    have h4 : i < xs.length := by omega
    rw [List.getElem?_eq_getElem h4] at h3
    have hli : i < l.length := by omega
    have htk : (l.drop i).take 1 = [l[i]] := by
      rw [List.drop_eq_getElem_cons hli]; rfl
    rw [htk] at h3
    exact ⟨l[i], xs[i].1, n, xs[i].2, List.getElem?_eq_getElem hli, by rw [List.getElem?_map, List.getElem?_eq_getElem h4]; rfl, h3⟩
theorem under_sea : ∃ fs, Tryz.prog.underlying 34 = some (.struct fs) ∧ fs.toList.map (fun f => (f.type, f.offset)) = [(31, 0), (32, 1), (32, 2), (31, 3), (2, 4), (3, 5)] := ⟨_, rfl, rfl⟩
set_option maxHeartbeats 0 in
theorem lay_sea {W : World} {z : List Blk} {g : Nat → Pl} (h : Lay W z g) {fuel : Nat} {cs : List Value} {d : DataW H} {ps : List MemPlace} {sp : Nat → Bool} {held : Bool} (hr : DataW.trod enc Tryz.prog W 0 sp held fuel 34 cs = some (d, ps)) (hsz : (d.weights Tryz.prog 34).all (· ≤ reachBytes) = true) :
    ∃ y bed water tracer speed sky step g', Lay W (z ++ y) g' ∧ (∀ i, i < (GG z).length → g' i = g i) ∧ Rvs (GG (z ++ y)).length g' [.sl (GG z).length 0 bed.length, .sl ((GG z).length + 1) 0 water.length, .sl ((GG z).length + 2) 0 tracer.length, .sl ((GG z).length + 3) 0 speed.length, .int .i64 sky, I step] cs ∧ SeaB (GG (z ++ y)) false (GG z).length ((GG z).length + 1) ((GG z).length + 2) ((GG z).length + 3) bed water tracer speed ∧ in64 sky ∧ in64 step := by
  obtain ⟨fs, hu, hts⟩ := under_sea
  have ones : ∀ (i : Nat) (p : TypeId × Nat), [(31, 0), (32, 1), (32, 2), (31, 3), (2, 4), (3, 5)][i]? = some p → p.2 = i ∧ Tryz.prog.cellsOf p.1 = 1 := by
    intro i p hp
    match i, hp with
    | 0, hp => injection hp with hp; subst hp; exact ⟨rfl, by kernel_rfl⟩
    | 1, hp => injection hp with hp; subst hp; exact ⟨rfl, by kernel_rfl⟩
    | 2, hp => injection hp with hp; subst hp; exact ⟨rfl, by kernel_rfl⟩
    | 3, hp => injection hp with hp; subst hp; exact ⟨rfl, by kernel_rfl⟩
    | 4, hp => injection hp with hp; subst hp; exact ⟨rfl, by kernel_rfl⟩
    | 5, hp => injection hp with hp; subst hp; exact ⟨rfl, by kernel_rfl⟩
  have uF : Tryz.prog.underlying 31 = some (.slice 22) := by kernel_rfl
  have uE : Tryz.prog.underlying 22 = some (.float .f64) := by kernel_rfl
  have uS : Tryz.prog.underlying 32 = some (.slice 2) := by kernel_rfl
  have u2 : Tryz.prog.underlying 2 = some (.int .i64) := by kernel_rfl
  have u3 : Tryz.prog.underlying 3 = some (.int .i64) := by kernel_rfl
  obtain ⟨ds, rfl, hl, hd, hw, ex⟩ := open_cells hu hts (by kernel_rfl) ones hr
  obtain ⟨c0, c1, c2, c3, c4, c5, rfl⟩ := six_of hl
  obtain ⟨y0, y1, y2, y3, y4, y5, rfl⟩ := six_of hd
  rw [hw] at hsz
  simp only [List.map_cons, List.map_nil, DataW.weightsEach, List.all_append, Bool.and_eq_true] at hsz
  obtain ⟨w0, w1, w2, w3, w4, w5, _⟩ := hsz
  obtain ⟨_, _, _, _, a0, d0, t0⟩ := ex 0 _ rfl
  obtain ⟨_, _, _, _, a1, d1, t1⟩ := ex 1 _ rfl
  obtain ⟨_, _, _, _, a2, d2, t2⟩ := ex 2 _ rfl
  obtain ⟨_, _, _, _, a3, d3, t3⟩ := ex 3 _ rfl
  obtain ⟨_, _, _, _, a4, d4, t4⟩ := ex 4 _ rfl
  obtain ⟨_, _, _, _, a5, d5, t5⟩ := ex 5 _ rfl
  injection a0 with a0; injection a1 with a1; injection a2 with a2; injection a3 with a3; injection a4 with a4; injection a5 with a5
  injection d0 with d0; injection d1 with d1; injection d2 with d2; injection d3 with d3; injection d4 with d4; injection d5 with d5
  subst a0 a1 a2 a3 a4 a5 d0 d1 d2 d3 d4 d5
  obtain ⟨l0, g0, L1, e0, r0, s0, z0⟩ := lay_fltsB h uF uE (by kernel_rfl) (by kernel_rfl) t0 w0
  obtain ⟨l1, g1, L2, e1, r1, s1, z1⟩ := lay_intsB L1 uS u2 (by kernel_rfl) (by kernel_rfl) t1 w1
  obtain ⟨l2, g2, L3, e2, r2, s2, z2⟩ := lay_intsB L2 uS u2 (by kernel_rfl) (by kernel_rfl) t2 w2
  obtain ⟨l3, g3, L4, e3, r3, s3, z3⟩ := lay_fltsB L3 uF uE (by kernel_rfl) (by kernel_rfl) t3 w3
  obtain ⟨sky, q4, _, m4⟩ := DataW.trod_int u2 t4
  obtain ⟨step, q5, _, m5⟩ := DataW.trod_int u3 t5
  injection q4 with q4; injection q5 with q5
  subst q4 q5
  have ey : z ++ [⟨false, .flts l0⟩] ++ [⟨false, .ints .i64 l1⟩] ++ [⟨false, .ints .i64 l2⟩] ++ [⟨false, .flts l3⟩] = z ++ [⟨false, .flts l0⟩, ⟨false, .ints .i64 l1⟩, ⟨false, .ints .i64 l2⟩, ⟨false, .flts l3⟩] := by simp
  have n1 : ∀ b : Blk, (GG (z ++ [b])).length = (GG z).length + 1 := fun b => by simp
  have n2 : ∀ b c : Blk, (GG (z ++ [b] ++ [c])).length = (GG z).length + 2 := fun b c => by simp
  have n3 : ∀ b c d : Blk, (GG (z ++ [b] ++ [c] ++ [d])).length = (GG z).length + 3 := fun b c d => by simp
  rw [n1] at r1 
  rw [n2] at r2
  rw [n3] at r3
  refine ⟨[⟨false, .flts l0⟩, ⟨false, .ints .i64 l1⟩, ⟨false, .ints .i64 l2⟩, ⟨false, .flts l3⟩], l0, l1, l2, l3, sky, step, g3, ey ▸ L4, fun i hi => ?_, ?_, ?_, in64_wf m4, in64_wf m5⟩
  · rw [e3 i (by simp at hi ⊢; omega), e2 i (by simp at hi ⊢; omega), e1 i (by simp at hi ⊢; omega), e0 i hi]
  · rw [← ey]
    exact ⟨_, _, rfl, Rv_mono (by simp) e3 _ (Rv_mono (by simp) e2 _ (Rv_mono (by simp) e1 _ r0)), _, _, rfl, Rv_mono (by simp) e3 _ (Rv_mono (by simp) e2 _ r1), _, _, rfl, Rv_mono (by simp) e3 _ r2, _, _, rfl, r3, _, _, rfl, rfl, _, _, rfl, rfl, rfl⟩
  · exact ⟨getB_app0 (M := GG z), getB_app (M := GG z) 1, getB_app (M := GG z) 2, getB_app (M := GG z) 3, s0, s1, s2, s3, z0, z1, z2, z3⟩
end
end Go.Proofs.YtemaeembndobaaaGreatDoor
