/- Package geom: the contracts of its functions. No condition. -/
import Derived.Test.YtgoljofmbidkfaaGreatDoorH
import Derived.Test.YtgoljofmbidkfaaGreatDoorF
namespace Go.Proofs.YtgoljofmbidkfaaGreatDoor
open Go Go.Eng
set_option maxRecDepth 100000
set_option linter.unusedSimpArgs false
set_option linter.unusedVariables false

def ratioO (k n : Int) : Option Nat := fdiv (some (FloatKind.f64.nearest k)) (some (FloatKind.f64.nearest n))
theorem ratio_ok (k n : Int) (m : List Blk) : COk Tryz.prog 3 152 [I k, I n] m (.fl (ratioO k n)) m := by
  refine COk_quiet Tryz.f152 Tryz.func152 (by kernel_rfl) rfl ?_
  conv => whnf
  exact ⟨rfl, [], by simp⟩
abbrev oneB : Nat := 4607182418800017408
def pointV : Nat → Option Nat → Option Nat → W
  | 0, p, q => ⟨canonF (some oneB), canonF p, canonF q⟩
  | 1, p, q => ⟨canonF (fneg p), canonF (some oneB), canonF q⟩
  | 2, p, q => ⟨canonF (fneg (some oneB)), canonF (fneg p), canonF q⟩
  | 3, p, q => ⟨canonF p, canonF (fneg (some oneB)), canonF q⟩
  | 4, p, q => ⟨canonF (fneg q), canonF p, canonF (some oneB)⟩
  | _, p, q => ⟨canonF q, canonF p, canonF (fneg (some oneB))⟩
def pointF (f : Nat) (p q : Option Nat) : W := unitF (pointV f p q)
theorem point_ok (f : Nat) (p q : Option Nat) (hf : f < 6) (x : List Blk) : COk Tryz.prog 3 151 [I f, .fl p, .fl q] (GG x) (pointF f p q).v (GG x) := by
  refine lift ?_ rfl x
  obtain rfl | rfl | rfl | rfl | rfl | rfl : f = 0 ∨ f = 1 ∨ f = 2 ∨ f = 3 ∨ f = 4 ∨ f = 5 := by omega
  all_goals
    refine COk_quiet Tryz.f151 Tryz.func151 (by kernel_rfl) rfl ?_
    conv => whnf
    repeat (first | (refine lr ?_; conv => whnf) | (refine ⟨_, _, canon_ok _ _, ?_⟩; conv => whnf))
    refine ⟨_, _, unit_ok ⟨_, _, _⟩ _, ?_⟩
    conv => whnf
    exact ⟨rfl, _, rfl⟩
/-- The corner i, j of a face's net; the middle of a cell. -/
def cornerF (n f i j : Nat) : W := pointF f (ratioO (2 * i - n) n) (ratioO (2 * j - n) n)
def middleF (n f i j : Nat) : W := pointF f (ratioO (2 * i + 1 - n) n) (ratioO (2 * j + 1 - n) n)
theorem cellsI_ne (n : Nat) (h1 : 1 ≤ n) (h2 : n ≤ 32) : cellsI n ≠ 0 := by
  have h := Nat.mul_pos h1 h1
  rw [cellsI, if_pos ⟨by omega, by omega⟩]
  intro h'
  have : (((6 * (n * n) : Nat) : Int)) = 0 := by simpa using h'
  omega
theorem corner_in (n f : Nat) {a b : Int} {i j : Nat} (ha : a = i) (hb : b = j) (h1 : 1 ≤ n) (h2 : n ≤ 32) (hf : f < 6) (hi : i ≤ n) (hj : j ≤ n) (x : List Blk) : COk Tryz.prog 3 150 [I n, I f, I a, I b] (GG x) (.tup [(cornerF n f i j).v, Bo true]) (GG x) := by
  subst ha hb
  refine lift ?_ rfl x
  refine COk_quiet Tryz.f150 Tryz.func150 (by kernel_rfl) rfl ?_
  conv => whnf
  refine ⟨_, _, cells_ok _ _, ?_⟩
  conv => whnf
  refine br_neq (cellsI_ne n h1 h2) ?_
  conv => whnf
  refine br_nd (by omega) ?_
  conv => whnf
  refine br_nd (by omega) ?_
  conv => whnf
  refine br_nd (by omega) ?_
  conv => whnf
  refine ⟨_, _, ratio_ok _ _ _, ?_⟩
  conv => whnf
  refine ⟨_, _, ratio_ok _ _ _, ?_⟩
  conv => whnf
  refine ⟨_, _, point_ok f _ _ hf _, ?_⟩
  conv => whnf
  refine ⟨?_, _, rfl⟩
  simp (disch := omega) only [wrap_id]
  rfl
theorem zero3 : W.v ⟨0, 0, 0⟩ = V3f 0 0 0 := rfl
theorem corner_no (side face i j : Int) (h : ¬ ((1 ≤ side ∧ side ≤ 32) ∧ (0 ≤ face ∧ face < 6) ∧ (0 ≤ i ∧ i ≤ side) ∧ 0 ≤ j ∧ j ≤ side)) (x : List Blk) : COk Tryz.prog 3 150 [I side, I face, I i, I j] (GG x) (.tup [V3f 0 0 0, Bo false]) (GG x) := by
  refine lift ?_ rfl x
  refine COk_quiet Tryz.f150 Tryz.func150 (by kernel_rfl) rfl ?_
  conv => whnf
  refine ⟨_, _, cells_ok _ _, ?_⟩
  conv => whnf
  refine br_intro (fun h1 => ?_) (fun h1 => ?_) <;> conv => whnf
  · exact ⟨rfl, _, rfl⟩
  refine br_di (fun h2 => ?_) (fun h2 => ?_) <;> conv => whnf
  · exact ⟨rfl, _, rfl⟩
  refine br_di (fun h3 => ?_) (fun h3 => ?_) <;> conv => whnf
  · exact ⟨rfl, _, rfl⟩
  refine br_di (fun h4 => ?_) (fun h4 => ?_) <;> conv => whnf
  · exact ⟨rfl, _, rfl⟩
  refine br_di (fun h5 => ?_) (fun h5 => ?_) <;> conv => whnf
  · exact ⟨rfl, _, rfl⟩
  refine br_di (fun h6 => ?_) (fun h6 => ?_) <;> conv => whnf
  · exact ⟨rfl, _, rfl⟩
  refine br_di (fun h7 => ?_) (fun h7 => ?_) <;> conv => whnf
  · exact ⟨rfl, _, rfl⟩
  exfalso
  have : cellsI side ≠ 0 := by simpa using h1
  have h8 : 1 ≤ side ∧ side ≤ 32 := by
    rw [cellsI] at this
    split at this
    · assumption
    · exact absurd rfl this
  omega
theorem middle_in (n f i j : Nat) (h1 : 1 ≤ n) (h2 : n ≤ 32) (hf : f < 6) (hi : i < n) (hj : j < n) (x : List Blk) : COk Tryz.prog 3 114 [I n, I (cellN n f i j)] (GG x) (.tup [(middleF n f i j).v, Bo true]) (GG x) := by
  refine lift ?_ rfl x
  refine COk_quiet Tryz.f114 Tryz.func114 (by kernel_rfl) rfl ?_
  conv => whnf
  refine ⟨_, _, place_in n f i j h1 h2 hf hi hj _, ?_⟩
  conv => whnf
  refine ⟨_, _, ratio_ok _ _ _, ?_⟩
  conv => whnf
  refine ⟨_, _, ratio_ok _ _ _, ?_⟩
  conv => whnf
  refine ⟨_, _, point_ok f _ _ hf _, ?_⟩
  conv => whnf
  refine ⟨?_, _, rfl⟩
  simp (disch := omega) only [wrap_id]
  rfl
theorem middle_no (side cell : Int) (h : ¬ (0 ≤ cell ∧ cell < cellsI side)) (x : List Blk) : COk Tryz.prog 3 114 [I side, I cell] (GG x) (.tup [V3f 0 0 0, Bo false]) (GG x) := by
  refine lift ?_ rfl x
  refine COk_quiet Tryz.f114 Tryz.func114 (by kernel_rfl) rfl ?_
  conv => whnf
  refine ⟨_, _, place_no _ _ h _, ?_⟩
  conv => whnf
  exact ⟨rfl, _, rfl⟩
/-- The four corners of a cell as one value. -/
def cornersV (n f i j : Nat) : V := .agg ((cornerF n f i j).v.cellsL ++ (cornerF n f (i + 1) j).v.cellsL ++ (cornerF n f (i + 1) (j + 1)).v.cellsL ++ (cornerF n f i (j + 1)).v.cellsL)
theorem corners_in (n f i j : Nat) (h1 : 1 ≤ n) (h2 : n ≤ 32) (hf : f < 6) (hi : i < n) (hj : j < n) (x : List Blk) : COk Tryz.prog 3 112 [I n, I (cellN n f i j)] (GG x) (.tup [cornersV n f i j, Bo true]) (GG x) := by
  refine lift ?_ rfl x
  refine COk_quiet Tryz.f112 Tryz.func112 (by kernel_rfl) rfl ?_
  conv => whnf
  refine ⟨_, _, place_in n f i j h1 h2 hf hi hj _, ?_⟩
  conv => whnf
  refine lr ?_
  conv => whnf
  refine ⟨_, _, corner_in n f (i := i) (j := j) (by simp (disch := omega) only [wrap_id]; omega) (by simp (disch := omega) only [wrap_id]; omega) h1 h2 hf (by omega) (by omega) _, ?_⟩
  conv => whnf
  refine lr ?_
  conv => whnf
  refine ⟨_, _, corner_in n f (i := i + 1) (j := j) (by simp (disch := omega) only [wrap_id]; omega) (by simp (disch := omega) only [wrap_id]; omega) h1 h2 hf (by omega) (by omega) _, ?_⟩
  conv => whnf
  refine lr ?_
  conv => whnf
  refine ⟨_, _, corner_in n f (i := i + 1) (j := j + 1) (by simp (disch := omega) only [wrap_id]; omega) (by simp (disch := omega) only [wrap_id]; omega) h1 h2 hf (by omega) (by omega) _, ?_⟩
  conv => whnf
  refine lr ?_
  conv => whnf
  refine ⟨_, _, corner_in n f (i := i) (j := j + 1) (by simp (disch := omega) only [wrap_id]; omega) (by simp (disch := omega) only [wrap_id]; omega) h1 h2 hf (by omega) (by omega) _, ?_⟩
  conv => whnf
  refine lr ?_
  conv => whnf
  exact ⟨rfl, _, rfl⟩

/-- A cell's number gives its place. -/
theorem cell_split {side cell : Int} (h : 0 ≤ cell ∧ cell < cellsI side) : ∃ n f i j : Nat, side = n ∧ cell = cellN n f i j ∧ 1 ≤ n ∧ n ≤ 32 ∧ f < 6 ∧ i < n ∧ j < n := by
  obtain ⟨h1, h2⟩ := h
  have h3 : 1 ≤ side ∧ side ≤ 32 := by
    rw [cellsI] at h2
    split at h2
    · assumption
    · omega
  rw [cellsI, if_pos h3] at h2
  obtain ⟨n, rfl⟩ : ∃ n : Nat, side = n := ⟨side.toNat, by omega⟩
  obtain ⟨c, rfl⟩ : ∃ c : Nat, cell = c := ⟨cell.toNat, by omega⟩
  have h4 : c < 6 * (n * n) := by exact_mod_cast h2
  have hn : 0 < n := by omega
  have hnn : 0 < n * n := Nat.mul_pos hn hn
  refine ⟨n, c / (n * n), c % n, c / n % n, rfl, ?_, by omega, by omega, ?_, Nat.mod_lt _ hn, Nat.mod_lt _ hn⟩
  · have e1 := Nat.div_add_mod c n
    have e2 := Nat.div_add_mod (c / n) n
    have e3 : c / n / n = c / (n * n) := Nat.div_div_eq_div_mul ..
    rw [e3] at e2
    congr 1
    rw [cellN, Nat.mul_comm (c / (n * n)) n, e2, Nat.mul_comm (c / n) n, e1]
  · exact (Nat.div_lt_iff_lt_mul hnn).mpr h4
def lenS (n f i j : Nat) : Nat → Nat
  | 0 => gapF (cornerF n f (i + 1) j) (cornerF n f (i + 1) (j + 1))
  | 1 => gapF (cornerF n f i (j + 1)) (cornerF n f (i + 1) (j + 1))
  | 2 => gapF (cornerF n f i j) (cornerF n f i (j + 1))
  | _ => gapF (cornerF n f i j) (cornerF n f (i + 1) j)
theorem glen_in (n f i j s : Nat) (h1 : 1 ≤ n) (h2 : n ≤ 32) (hf : f < 6) (hi : i < n) (hj : j < n) (hs : s < 4) (x : List Blk) : COk Tryz.prog 3 54 [I n, I (cellN n f i j), I s] (GG x) (F (lenS n f i j s)) (GG x) := by
  refine lift ?_ rfl x
  obtain rfl | rfl | rfl | rfl : s = 0 ∨ s = 1 ∨ s = 2 ∨ s = 3 := by omega
  all_goals
    refine COk_quiet Tryz.f54 Tryz.func54 (by kernel_rfl) rfl ?_
    conv => whnf
    refine ⟨_, _, corners_in n f i j h1 h2 hf hi hj _, ?_⟩
    conv => whnf
    refine ⟨_, vgap_ok ⟨_, _, _⟩ ⟨_, _, _⟩ _, ?_⟩
    conv => whnf
    exact ⟨rfl, _, rfl⟩
theorem corners_no (side cell : Int) (h : ¬ (0 ≤ cell ∧ cell < cellsI side)) (x : List Blk) : COk Tryz.prog 3 112 [I side, I cell] (GG x) (.tup [.agg (List.replicate 12 (F 0)), Bo false]) (GG x) := by
  refine lift ?_ rfl x
  refine COk_quiet Tryz.f112 Tryz.func112 (by kernel_rfl) rfl ?_
  conv => whnf
  refine ⟨_, _, place_no _ _ h _, ?_⟩
  conv => whnf
  exact ⟨rfl, _, rfl⟩
theorem glen_no (side cell over : Int) (h : ¬ ((0 ≤ cell ∧ cell < cellsI side) ∧ 0 ≤ over ∧ over < 4)) (x : List Blk) : COk Tryz.prog 3 54 [I side, I cell, I over] (GG x) (F 0) (GG x) := by
  refine lift ?_ rfl x
  refine COk_quiet Tryz.f54 Tryz.func54 (by kernel_rfl) rfl ?_
  conv => whnf
  by_cases hc : 0 ≤ cell ∧ cell < cellsI side
  · obtain ⟨n, f, i, j, rfl, rfl, h1, h2, h3, h4, h5⟩ := cell_split hc
    refine ⟨_, _, corners_in n f i j h1 h2 h3 h4 h5 _, ?_⟩
    conv => whnf
    refine br_di (fun h6 => ?_) (fun h6 => ?_) <;> conv => whnf
    · exact ⟨rfl, _, rfl⟩
    refine br_di (fun h7 => ?_) (fun h7 => ?_) <;> conv => whnf
    · exact ⟨rfl, _, rfl⟩
    omega
  · refine ⟨_, _, corners_no _ _ hc _, ?_⟩
    conv => whnf
    exact ⟨rfl, _, rfl⟩
def gapS (n f i j s : Nat) : Nat := gapF (middleF n f i j) (middleF n (nb n f i j s).1 (nb n f i j s).2.1 (nb n f i j s).2.2.1)
theorem nbT_lt (f s : Nat) : (nbT f s).1 < 6 ∧ (nbT f s).2.1 < 4 := by
  unfold nbT
  split <;> decide
theorem putS_lt {n k b : Nat} (hk : k < n) : (putS n k b).1 < n ∧ (putS n k b).2 < n := by
  unfold putS
  split <;> dsimp only <;> omega
theorem nb_lt {n f i j s : Nat} (hf : f < 6) (hi : i < n) (hj : j < n) : (nb n f i j s).1 < 6 ∧ (nb n f i j s).2.1 < n ∧ (nb n f i j s).2.2.1 < n ∧ (nb n f i j s).2.2.2 < 4 := by
  have key : ∀ s, (nbE n f i j s).1 < 6 ∧ (nbE n f i j s).2.1 < n ∧ (nbE n f i j s).2.2.1 < n ∧ (nbE n f i j s).2.2.2 < 4 := by
    intro s
    have h1 : flipK n (alongS i j s) (nbT f s).2.2 < n := by
      have : alongS i j s < n := by unfold alongS; split <;> assumption
      unfold flipK; split <;> omega
    have h2 := putS_lt (b := (nbT f s).2.1) h1
    exact ⟨(nbT_lt f s).1, h2.1, h2.2, (nbT_lt f s).2⟩
  unfold nb
  split <;> split <;> first | exact key _ | (dsimp only; omega)
theorem ggap_in (n f i j s : Nat) (h1 : 1 ≤ n) (h2 : n ≤ 32) (hf : f < 6) (hi : i < n) (hj : j < n) (hs : s < 4) (x : List Blk) : COk Tryz.prog 3 55 [I n, I (cellN n f i j), I s] (GG x) (F (gapS n f i j s)) (GG x) := by
  refine lift ?_ rfl x
  obtain ⟨k1, k2, k3, _⟩ := nb_lt (s := s) hf hi hj
  refine COk_quiet Tryz.f55 Tryz.func55 (by kernel_rfl) rfl ?_
  conv => whnf
  refine ⟨_, _, beside_ok n f i j s h1 h2 hf hi hj hs _, ?_⟩
  conv => whnf
  refine ⟨_, _, middle_in n f i j h1 h2 hf hi hj _, ?_⟩
  conv => whnf
  refine ⟨_, _, middle_in n _ _ _ h1 h2 k1 k2 k3 _, ?_⟩
  conv => whnf
  refine ⟨_, _, vgap_ok ⟨_, _, _⟩ ⟨_, _, _⟩ _, ?_⟩
  conv => whnf
  exact ⟨rfl, _, rfl⟩
theorem ggap_no (side cell over : Int) (h : ¬ ((0 ≤ cell ∧ cell < cellsI side) ∧ 0 ≤ over ∧ over < 4)) (x : List Blk) : COk Tryz.prog 3 55 [I side, I cell, I over] (GG x) (F 0) (GG x) := by
  refine lift ?_ rfl x
  refine COk_quiet Tryz.f55 Tryz.func55 (by kernel_rfl) rfl ?_
  conv => whnf
  refine ⟨_, _, beside_no _ _ _ h (fun hc => cell_split hc) _, ?_⟩
  conv => whnf
  by_cases hc : 0 ≤ cell ∧ cell < cellsI side
  · obtain ⟨n, f, i, j, rfl, rfl, h1, h2, h3, h4, h5⟩ := cell_split hc
    refine ⟨_, _, middle_in n f i j h1 h2 h3 h4 h5 _, ?_⟩
    conv => whnf
    refine ⟨_, _, middle_no _ _ (by omega) _, ?_⟩
    conv => whnf
    exact ⟨rfl, _, rfl⟩
  · refine ⟨_, _, middle_no _ _ hc _, ?_⟩
    conv => whnf
    refine ⟨_, _, middle_no _ _ (by omega) _, ?_⟩
    conv => whnf
    exact ⟨rfl, _, rfl⟩
end Go.Proofs.YtgoljofmbidkfaaGreatDoor
