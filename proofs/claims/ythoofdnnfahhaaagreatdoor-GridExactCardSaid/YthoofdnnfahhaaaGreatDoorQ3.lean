/- A list of three whole numbers each among a law's arguments. No condition. -/
import Derived.Test.YthoofdnnfahhaaaGreatDoorQw
namespace Go.Proofs.YthoofdnnfahhaaaGreatDoor
open Go Go.Eng Go.ChangeShapes Go.WideShapes Go.RowKit
set_option maxRecDepth 100000
set_option linter.unusedSimpArgs false
set_option linter.unusedVariables false

theorem list_ofI {P : Nat → Int → Prop} : ∀ n : Nat, (∀ k, k < n → ∃ b, P k b) → ∃ l : List Int, l.length = n ∧ ∀ k, k < n → P k (l.getD k 0)
  | 0, _ => ⟨[], rfl, fun k hk => absurd hk (Nat.not_lt_zero k)⟩
  | n + 1, h => by
    obtain ⟨l, hl, hp⟩ := list_ofI n (fun k hk => h k (by omega))
    obtain ⟨b, hb⟩ := h n (Nat.lt_succ_self n)
    refine ⟨l ++ [b], by simp [hl], fun k hk => ?_⟩
    rcases Nat.lt_or_ge k n with h1 | h1
    · have e : (l ++ [b]).getD k 0 = l.getD k 0 := by
        rw [List.getD_eq_getElem?_getD, List.getElem?_append_left (by omega), ← List.getD_eq_getElem?_getD]
      rw [e]; exact hp k h1
    · obtain rfl : k = n := by omega
      have e : (l ++ [b]).getD k 0 = b := by
        rw [List.getD_eq_getElem?_getD, List.getElem?_append_right (by omega), hl, Nat.sub_self]; rfl
      rw [e]; exact hb
theorem three_of {α : Type} {l : List α} (h : l.length = [(3, 0), (3, 1), (3, 2)].length) : ∃ a b c, l = [a, b, c] := by
  match l, h with
  | [a, b, c], _ => exact ⟨a, b, c, rfl⟩
section
variable {H : Type} {enc : TypeId × Value → H}
theorem under_ask3 : ∃ fs, Tryz.prog.underlying 48 = some (.struct fs) ∧ fs.toList.map (fun f => (f.type, f.offset)) = [(3, 0), (3, 1), (3, 2)] := ⟨_, rfl, rfl⟩
theorem open_ask3 {W : World} {base : Nat} {fuel : Nat} {cs : List Value} {d : DataW H} {ps : List MemPlace} {sp : Nat → Bool} {held : Bool} (hr : DataW.trod enc Tryz.prog W base sp held fuel 48 cs = some (d, ps)) :
    ∃ a b c, cs = [.int .i64 a, .int .i64 b, .int .i64 c] ∧ in64 a ∧ in64 b ∧ in64 c := by
  obtain ⟨fs, hu, hts⟩ := under_ask3
  have ones : ∀ (i : Nat) (p : TypeId × Nat), [(3, 0), (3, 1), (3, 2)][i]? = some p → p.2 = i ∧ Tryz.prog.cellsOf p.1 = 1 := by
    intro i p hp
    match i, hp with
    | 0, hp => injection hp with hp; subst hp; exact ⟨rfl, by kernel_rfl⟩
    | 1, hp => injection hp with hp; subst hp; exact ⟨rfl, by kernel_rfl⟩
    | 2, hp => injection hp with hp; subst hp; exact ⟨rfl, by kernel_rfl⟩
  have uE : Tryz.prog.underlying 3 = some (.int .i64) := by kernel_rfl
  obtain ⟨ds, rfl, hl, hd, hw, ex⟩ := open_cells hu hts (by kernel_rfl) ones hr
  obtain ⟨c0, c1, c2, rfl⟩ := three_of hl
  obtain ⟨_, _, _, _, a0, _, t0⟩ := ex 0 _ rfl
  obtain ⟨_, _, _, _, a1, _, t1⟩ := ex 1 _ rfl
  obtain ⟨_, _, _, _, a2, _, t2⟩ := ex 2 _ rfl
  injection a0 with a0; injection a1 with a1; injection a2 with a2
  subst a0 a1 a2
  obtain ⟨x0, q0, _, m0⟩ := DataW.trod_int uE t0
  obtain ⟨x1, q1, _, m1⟩ := DataW.trod_int uE t1
  obtain ⟨x2, q2, _, m2⟩ := DataW.trod_int uE t2
  injection q0 with q0; injection q1 with q1; injection q2 with q2
  subst q0 q1 q2
  exact ⟨x0, x1, x2, rfl, in64_wf m0, in64_wf m1, in64_wf m2⟩
theorem lay_asks3 {W : World} {z : List Blk} {g : Nat → Pl} (h : Lay W z g) {t : TypeId} {fuel : Nat} {x : Value} {d : DataW H} {ps : List MemPlace} {sp : Nat → Bool} {held : Bool} (ht : Tryz.prog.underlying t = some (.slice 48))
    (hr : DataW.trod enc Tryz.prog W 0 sp held fuel t [x] = some (d, ps)) (hsz : (d.weights Tryz.prog t).all (· ≤ reachBytes) = true) :
    ∃ l n g', Lay W (z ++ [⟨false, .ints .i64 l⟩]) g' ∧ (∀ i, i < (GG z).length → g' i = g i) ∧ Rv (GG (z ++ [⟨false, .ints .i64 l⟩])).length g' (.sl (GG z).length 0 n) x ∧ (∀ i, i < l.length → in64 (l.getD i 0)) ∧ l.length = 3 * n ∧ n ≤ 17592186044416 := by
  have hlen := h.len
  have hc : Tryz.prog.cellsOf 48 = 3 := by kernel_rfl
  have hb : Tryz.prog.bytesOf 48 = 24 := by kernel_rfl
  have hnil : ∀ (b : Blk) , b = ⟨false, .ints .i64 []⟩ → RepB ((GG z).length + 1) (newAtP g (GG z).length ⟨0, 0, 0, 0⟩) W ⟨0, 0, 0, 0⟩ b := fun b hb => by
    subst hb
    exact ⟨hlen, (fun j v hv => by simp [B.get] at hv), (fun h => nomatch h), (fun _ j hj => absurd hj (Nat.not_lt_zero j)), (fun f hf => nomatch hf), rfl⟩
  rcases DataW.trod_slice ht hr with ⟨h1, h2⟩ | ⟨a, len, cap, elems, rest, fu, _, h1, hx, _, hlc, hm, hel, hels, _, _⟩
  · injection h1 with h1
    exact ⟨[], 0, _, h.snoc _ ⟨0, 0, 0, 0⟩ rfl (hnil _ rfl) rfl, newAtP_old g _ _, ⟨by simp, by simp [newAtP], none, 0, h1, Nat.le_refl _, fun h => absurd h (Nat.lt_irrefl 0)⟩, fun i hi => absurd hi (Nat.not_lt_zero i), rfl, Nat.zero_le _⟩
  · injection h1 with h1
    have hd : d = .slice (elems.map (·.1)) (rest.map (·.1)) := congrArg Prod.fst hx
    have hle : len ≤ 17592186044416 := by
      rw [hd] at hsz
      unfold DataW.weights at hsz
      rw [ht] at hsz
      simp only [List.all_cons, Bool.and_eq_true, decide_eq_true_eq, hb, List.length_map, hel] at hsz
      have : reachBytes = 140737488351232 := rfl
      omega
    rcases Nat.eq_zero_or_pos len with rfl | hpos
    · exact ⟨[], 0, _, h.snoc _ ⟨0, 0, 0, 0⟩ rfl (hnil _ rfl) rfl, newAtP_old g _ _, ⟨by simp, by simp [newAtP], some a, cap, h1, hlc, fun h => absurd h (Nat.lt_irrefl 0)⟩, fun i hi => absurd hi (Nat.not_lt_zero i), rfl, Nat.zero_le _⟩
    · have one : ∀ i, i < len → ∃ cs, W.cells? 0 (a.add (i * 3)) 3 = some cs ∧ ∃ a b c, cs = [.int .i64 a, .int .i64 b, .int .i64 c] ∧ in64 a ∧ in64 b ∧ in64 c := by
        intro i hi
        have h3 := hels i hi
        rw [hc, List.getElem?_eq_getElem (by omega), Option.bind_eq_some_iff] at h3
        obtain ⟨cs, h4, h5⟩ := h3
        exact ⟨cs, h4, open_ask3 (d := (elems[i]'(by omega)).1) (ps := (elems[i]'(by omega)).2) h5⟩
      have hspot : a.spot = none := by
        obtain ⟨cs, h4, x0, x1, x2, rfl, _⟩ := one 0 hpos
        have h0 := (World.cells?_some h4).2.2 0 (by decide)
        unfold World.cell? at h0
        have : (a.add (0 * 3)).add 0 = a := rfl
        rw [this] at h0
        split at h0
        · split at h0
          · exact absurd h0 (by simp)
          · rename_i hs; simpa using hs
        · exact absurd h0 (by simp)
      obtain ⟨ab, ao, asp⟩ := a
      simp only at hspot
      subst hspot
      have hadd : ∀ o i, (Addr.mk ab o none).add i = ⟨ab, o + i, none⟩ := by
        intro o i; unfold Addr.add
        split
        · rename_i h; subst h; rfl
        · rfl
      have each : ∀ k, k < 3 * len → ∃ b, W.cell? ⟨ab, ao + k, none⟩ = some (.int .i64 b) ∧ in64 b := by
        intro k hk
        obtain ⟨cs, h4, x0, x1, x2, rfl, i0, i1, i2⟩ := one (k / 3) (by omega)
        have h0 := (World.cells?_some h4).2.2 (k % 3) (by omega)
        rw [hadd, hadd, show ao + k / 3 * 3 + k % 3 = ao + k by omega] at h0
        have hm : k % 3 < 3 := Nat.mod_lt _ (by decide)
        generalize k % 3 = m at *
        match m, hm with
        | 0, _ => exact ⟨x0, h0, i0⟩
        | 1, _ => exact ⟨x1, h0, i1⟩
        | 2, _ => exact ⟨x2, h0, i2⟩
      obtain ⟨l, hl, hp⟩ := list_ofI (3 * len) each
      have hsize : ab < W.heap.size := by
        have h0 := (hp 0 (by omega)).1
        unfold World.cell? at h0
        simp only at h0
        split at h0
        · rename_i he; exact (Array.getElem?_eq_some_iff.1 he).1
        · exact absurd h0 (by simp)
      refine ⟨l, len, _, h.snoc _ ⟨ab, ao, 0, 0⟩ rfl ?_ rfl, newAtP_old g _ _, ?_, fun i hi => (hp i (by omega)).2, hl, hle⟩
      · refine ⟨hsize, fun j v hv => ?_, (fun h => nomatch h), (fun _ j hj => absurd hj (Nat.not_lt_zero j)), (fun f hf => nomatch hf), rfl⟩
        have hv : (l[j]?).map (V.int .i64) = some v := hv
        obtain ⟨y, hy, rfl⟩ := Option.map_eq_some_iff.1 hv
        have hj := (List.getElem?_eq_some_iff.1 hy).1
        refine ⟨.int .i64 y, ?_, rfl⟩
        have := (hp j (by omega)).1
        show W.cell? ⟨ab, ao + j, none⟩ = _
        rw [this, List.getD_eq_getElem?_getD, hy]; rfl
      · refine ⟨by simp, by simp [newAtP], some ⟨ab, ao, none⟩, cap, h1, by omega, fun _ => by simp [newAtP]⟩
end
end Go.Proofs.YthoofdnnfahhaaaGreatDoor
