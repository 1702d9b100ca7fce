/- Package cube: Turn. No condition. -/
import Derived.Test.YtgoljofmbidkfaaGreatDoorF
import Derived.Test.YtgoljofmbidkfaaGreatDoorV
namespace Go.Proofs.YtgoljofmbidkfaaGreatDoor
open Go Go.Eng
set_option maxRecDepth 100000
set_option linter.unusedSimpArgs false
set_option linter.unusedVariables false

/-- Where the turns take the axes. -/
def axT : List (List Int) := [[1, 0, 0, 0, 1, 0, 0, 0, 1],
  [1, 0, 0, 0, -1, 0, 0, 0, -1],
  [1, 0, 0, 0, 0, 1, 0, -1, 0],
  [1, 0, 0, 0, 0, -1, 0, 1, 0],
  [0, 1, 0, 1, 0, 0, 0, 0, -1],
  [0, 1, 0, -1, 0, 0, 0, 0, 1],
  [0, 1, 0, 0, 0, 1, 1, 0, 0],
  [0, 1, 0, 0, 0, -1, -1, 0, 0],
  [-1, 0, 0, 0, 1, 0, 0, 0, -1],
  [-1, 0, 0, 0, -1, 0, 0, 0, 1],
  [-1, 0, 0, 0, 0, 1, 0, 1, 0],
  [-1, 0, 0, 0, 0, -1, 0, -1, 0],
  [0, -1, 0, 1, 0, 0, 0, 0, 1],
  [0, -1, 0, -1, 0, 0, 0, 0, -1],
  [0, -1, 0, 0, 0, 1, -1, 0, 0],
  [0, -1, 0, 0, 0, -1, 1, 0, 0],
  [0, 0, 1, 1, 0, 0, 0, 1, 0],
  [0, 0, 1, 0, 1, 0, -1, 0, 0],
  [0, 0, 1, -1, 0, 0, 0, -1, 0],
  [0, 0, 1, 0, -1, 0, 1, 0, 0],
  [0, 0, -1, 1, 0, 0, 0, -1, 0],
  [0, 0, -1, 0, 1, 0, 1, 0, 0],
  [0, 0, -1, -1, 0, 0, 0, 1, 0],
  [0, 0, -1, 0, -1, 0, -1, 0, 0]]
/-- Where they take the faces; by how many sides the sides are turned. -/
def faT : List (List Nat) := [[0, 1, 2, 3, 4, 5], [0, 3, 2, 1, 5, 4], [0, 4, 2, 5, 3, 1], [0, 5, 2, 4, 1, 3], [1, 0, 3, 2, 5, 4], [1, 2, 3, 0, 4, 5], [1, 4, 3, 5, 0, 2], [1, 5, 3, 4, 2, 0], [2, 1, 0, 3, 5, 4], [2, 3, 0, 1, 4, 5], [2, 4, 0, 5, 1, 3], [2, 5, 0, 4, 3, 1], [3, 0, 1, 2, 4, 5], [3, 2, 1, 0, 5, 4], [3, 4, 1, 5, 2, 0], [3, 5, 1, 4, 0, 2], [4, 0, 5, 2, 1, 3], [4, 1, 5, 3, 2, 0], [4, 2, 5, 0, 3, 1], [4, 3, 5, 1, 0, 2], [5, 0, 4, 2, 3, 1], [5, 1, 4, 3, 0, 2], [5, 2, 4, 0, 1, 3], [5, 3, 4, 1, 2, 0]]
def quT : List (List Nat) := [[0, 0, 0, 0, 0, 0], [2, 2, 2, 2, 2, 2], [1, 1, 3, 1, 1, 1], [3, 3, 1, 3, 3, 3], [2, 2, 2, 2, 1, 3], [0, 0, 0, 0, 1, 3], [1, 2, 3, 0, 1, 1], [3, 2, 1, 0, 3, 3], [2, 2, 2, 2, 0, 0], [0, 0, 0, 0, 2, 2], [1, 3, 3, 3, 1, 1], [3, 1, 1, 1, 3, 3], [0, 0, 0, 0, 3, 1], [2, 2, 2, 2, 3, 1], [1, 0, 3, 2, 1, 1], [3, 0, 1, 2, 3, 3], [3, 3, 3, 1, 2, 0], [0, 3, 2, 1, 2, 0], [1, 3, 1, 1, 2, 0], [2, 3, 0, 1, 2, 0], [1, 1, 1, 3, 0, 2], [0, 1, 2, 3, 0, 2], [3, 1, 3, 3, 0, 2], [2, 1, 0, 3, 0, 2]]
def tx (t k : Nat) : Int := (axT.getD t []).getD k 0
def fa (t f : Nat) : Nat := (faT.getD t []).getD f 0
def qu (t f : Nat) : Nat := (quT.getD t []).getD f 0
/-- A face's frame. -/
def fc (f k : Nat) : Int := cubeL.getD (f * 9 + k) 0
/-- The way over a side. -/
def ou (f s k : Nat) : Int := (outL f s).getD k 0
theorem tx_unit : ∀ t, t < 24 → ∀ k, k < 9 → tx t k = 0 ∨ tx t k = 1 ∨ tx t k = -1 := by decide +kernel
theorem fc_unit : ∀ f, f < 6 → ∀ k, k < 9 → fc f k = 0 ∨ fc f k = 1 ∨ fc f k = -1 := by decide +kernel
theorem fa_lt : ∀ t, t < 24 → ∀ f, f < 6 → fa t f < 6 ∧ qu t f < 4 := by decide +kernel
/-- A turn takes a face's middle, east and north to those of the other face, its sides turned. -/
theorem turn_mid : ∀ t, t < 24 → ∀ f, f < 6 → ∀ k, k < 3 → tx t k * fc f 0 + tx t (3 + k) * fc f 1 + tx t (6 + k) * fc f 2 = fc (fa t f) k := by decide +kernel
theorem turn_east : ∀ t, t < 24 → ∀ f, f < 6 → ∀ k, k < 3 → tx t k * fc f 3 + tx t (3 + k) * fc f 4 + tx t (6 + k) * fc f 5 = ou (fa t f) (qu t f) k := by decide +kernel
theorem turn_north : ∀ t, t < 24 → ∀ f, f < 6 → ∀ k, k < 3 → tx t k * fc f 6 + tx t (3 + k) * fc f 7 + tx t (6 + k) * fc f 8 = ou (fa t f) ((qu t f + 1) % 4) k := by decide +kernel
theorem ou_fc : ∀ f, f < 6 → ∀ k, k < 3 → ou f 0 k = fc f (3 + k) ∧ ou f 1 k = fc f (6 + k) ∧ ou f 2 k = -fc f (3 + k) ∧ ou f 3 k = -fc f (6 + k) := by decide +kernel
/-- The places of a cell in a turned face. -/
def rotI (n q i j : Nat) : Nat := if q = 0 then i else if q = 1 then n - 1 - j else if q = 2 then n - 1 - i else j
def rotJ (n q i j : Nat) : Nat := if q = 0 then j else if q = 1 then i else if q = 2 then n - 1 - j else n - 1 - i
abbrev axV (t : Nat) : V := V9 (tx t 0) (tx t 1) (tx t 2) (tx t 3) (tx t 4) (tx t 5) (tx t 6) (tx t 7) (tx t 8)
abbrev fcV (f : Nat) : V := V9 (fc f 0) (fc f 1) (fc f 2) (fc f 3) (fc f 4) (fc f 5) (fc f 6) (fc f 7) (fc f 8)
set_option maxHeartbeats 0 in
theorem axes_ok (t : Nat) (ht : t < 24) (x : List Blk) : COk Tryz.prog 3 93 [I t] (GG x) (axV t) (GG x) := by
  refine lift ?_ rfl x
  obtain rfl | rfl | rfl | rfl | rfl | rfl | rfl | rfl | rfl | rfl | rfl | rfl | rfl | rfl | rfl | rfl | rfl | rfl | rfl | rfl | rfl | rfl | rfl | rfl : t = 0 ∨ t = 1 ∨ t = 2 ∨ t = 3 ∨ t = 4 ∨ t = 5 ∨ t = 6 ∨ t = 7 ∨ t = 8 ∨ t = 9 ∨ t = 10 ∨ t = 11 ∨ t = 12 ∨ t = 13 ∨ t = 14 ∨ t = 15 ∨ t = 16 ∨ t = 17 ∨ t = 18 ∨ t = 19 ∨ t = 20 ∨ t = 21 ∨ t = 22 ∨ t = 23 := by omega
  all_goals
    refine COk_quiet Tryz.f93 Tryz.func93 (by kernel_rfl) rfl ?_
    (conv => whnf)
    repeat (first | (refine ⟨_, _, dot_ok _ _ _ _ _ _ _, ?_⟩; conv => whnf) | (refine ⟨_, cross_ok _ _ _ _ _ _ _, ?_⟩; conv => whnf) | (refine lr ?_; conv => whnf))
    exact ⟨rfl, _, rfl⟩
/-- A turned way, where nothing wraps. -/
theorem lin3 {a d g : Int} (x y z : Int) (ha : a = 0 ∨ a = 1 ∨ a = -1) (hd : d = 0 ∨ d = 1 ∨ d = -1) (hg : g = 0 ∨ g = 1 ∨ g = -1) (hx : -200 ≤ x ∧ x ≤ 200) (hy : -200 ≤ y ∧ y ≤ 200) (hz : -200 ≤ z ∧ z ≤ 200) :
    IntKind.i64.wrap (IntKind.i64.wrap (IntKind.i64.wrap (x * a) + IntKind.i64.wrap (y * d)) + IntKind.i64.wrap (z * g)) = a * x + d * y + g * z := by
  obtain rfl | rfl | rfl := ha <;> obtain rfl | rfl | rfl := hd <;> obtain rfl | rfl | rfl := hg <;> simp (disch := omega) only [wrap_id] <;> omega
theorem turned_ok (t : Nat) (ht : t < 24) {a b c r0 r1 r2 : Int} (ha : -200 ≤ a ∧ a ≤ 200) (hb : -200 ≤ b ∧ b ≤ 200) (hc : -200 ≤ c ∧ c ≤ 200)
    (e0 : tx t 0 * a + tx t 3 * b + tx t 6 * c = r0) (e1 : tx t 1 * a + tx t 4 * b + tx t 7 * c = r1) (e2 : tx t 2 * a + tx t 5 * b + tx t 8 * c = r2) (x : List Blk) :
    COk Tryz.prog 3 94 [axV t, V3 a b c] (GG x) (V3 r0 r1 r2) (GG x) := by
  refine lift ?_ rfl x
  refine COk_quiet Tryz.f94 Tryz.func94 (by kernel_rfl) rfl ?_
  (conv => whnf); repeat ((first | refine ⟨_, _, times_ok _ _ _ _ _, ?_⟩ | refine ⟨_, times_ok _ _ _ _ _, ?_⟩ | refine ⟨_, _, plus_ok _ _ _ _ _ _ _, ?_⟩ | refine ⟨_, plus_ok _ _ _ _ _ _ _, ?_⟩ | refine br_d (by omega) ?_ | refine br_nd (by omega) ?_ | refine br_eq (by omega) ?_ | refine br_neq (by omega) ?_ | refine br_ne (by omega) ?_ | refine br_no (bo_eqn (by omega)) ?_ | refine Or.inl ?_ | refine okS_no (by kernel_rfl) ?_ | refine okS_yes (by kernel_rfl) ?_ | refine And_of (by (conv => whnf); (rw [getB_app0]); (conv => whnf)) ?_ | refine setB_app ?_ | refine setB_app0 ?_ | rw [getB_app] | rw [getB_app0] | refine addB_f13 ?_ | refine addB_f12 ?_ | refine addB_f11 ?_ | refine addB_f10 ?_ | refine addB_f9 ?_ | refine addB_f8 ?_ | refine addB_f7 ?_ | refine addB_f6 ?_ | refine addB_f5 ?_ | refine addB_f4 ?_ | refine addB_f3 ?_ | refine addB_f2 ?_ | refine addB_f1 ?_ | refine addB_f0 ?_); conv => whnf)
  have u := tx_unit t ht
  refine ⟨V3_congr ?_ ?_ ?_, _, rfl⟩
  · rw [lin3 a b c (u 0 (by decide)) (u 3 (by decide)) (u 6 (by decide)) ha hb hc, e0]
  · rw [lin3 a b c (u 1 (by decide)) (u 4 (by decide)) (u 7 (by decide)) ha hb hc, e1]
  · rw [lin3 a b c (u 2 (by decide)) (u 5 (by decide)) (u 8 (by decide)) ha hb hc, e2]
/-- The middle of a cell. -/
def mq (n : Int) (f : Nat) (i j : Int) (k : Nat) : Int := n * fc f k + (2 * i + 1 - n) * fc f (3 + k) + (2 * j + 1 - n) * fc f (6 + k)
theorem midP_mq (n i j : Int) (f : Nat) (hf : f < 6) : midP n i j f = V3 (mq n f i j 0) (mq n f i j 1) (mq n f i j 2) := by
  obtain rfl | rfl | rfl | rfl | rfl | rfl : f = 0 ∨ f = 1 ∨ f = 2 ∨ f = 3 ∨ f = 4 ∨ f = 5 := by omega
  · exact V3_congr (by show _ = n * (1) + (2 * i + 1 - n) * (0) + (2 * j + 1 - n) * (0); omega) (by show _ = n * (0) + (2 * i + 1 - n) * (1) + (2 * j + 1 - n) * (0); omega) (by show _ = n * (0) + (2 * i + 1 - n) * (0) + (2 * j + 1 - n) * (1); omega)
  · exact V3_congr (by show _ = n * (0) + (2 * i + 1 - n) * (-1) + (2 * j + 1 - n) * (0); omega) (by show _ = n * (1) + (2 * i + 1 - n) * (0) + (2 * j + 1 - n) * (0); omega) (by show _ = n * (0) + (2 * i + 1 - n) * (0) + (2 * j + 1 - n) * (1); omega)
  · exact V3_congr (by show _ = n * (-1) + (2 * i + 1 - n) * (0) + (2 * j + 1 - n) * (0); omega) (by show _ = n * (0) + (2 * i + 1 - n) * (-1) + (2 * j + 1 - n) * (0); omega) (by show _ = n * (0) + (2 * i + 1 - n) * (0) + (2 * j + 1 - n) * (1); omega)
  · exact V3_congr (by show _ = n * (0) + (2 * i + 1 - n) * (1) + (2 * j + 1 - n) * (0); omega) (by show _ = n * (-1) + (2 * i + 1 - n) * (0) + (2 * j + 1 - n) * (0); omega) (by show _ = n * (0) + (2 * i + 1 - n) * (0) + (2 * j + 1 - n) * (1); omega)
  · exact V3_congr (by show _ = n * (0) + (2 * i + 1 - n) * (0) + (2 * j + 1 - n) * (-1); omega) (by show _ = n * (0) + (2 * i + 1 - n) * (1) + (2 * j + 1 - n) * (0); omega) (by show _ = n * (1) + (2 * i + 1 - n) * (0) + (2 * j + 1 - n) * (0); omega)
  · exact V3_congr (by show _ = n * (0) + (2 * i + 1 - n) * (0) + (2 * j + 1 - n) * (1); omega) (by show _ = n * (0) + (2 * i + 1 - n) * (1) + (2 * j + 1 - n) * (0); omega) (by show _ = n * (-1) + (2 * i + 1 - n) * (0) + (2 * j + 1 - n) * (0); omega)
theorem mq_bd {n i j : Int} {f k : Nat} (hf : f < 6) (hk : k < 3) (hn : 1 ≤ n ∧ n ≤ 32) (hi : 0 ≤ i ∧ i < n) (hj : 0 ≤ j ∧ j < n) : -200 ≤ mq n f i j k ∧ mq n f i j k ≤ 200 := by
  unfold mq
  have h1 := fc_unit f hf k (by omega)
  have h2 := fc_unit f hf (3 + k) (by omega)
  have h3 := fc_unit f hf (6 + k) (by omega)
  generalize fc f k = a at *
  generalize fc f (3 + k) = b at *
  generalize fc f (6 + k) = c at *
  obtain rfl | rfl | rfl := h1 <;> obtain rfl | rfl | rfl := h2 <;> obtain rfl | rfl | rfl := h3 <;> omega
/-- The turned middle is that of the turned cell. -/
theorem turn_mq {t f n i j : Nat} (ht : t < 24) (hf : f < 6) (hi : i < n) (hj : j < n) {k : Nat} (hk : k < 3) :
    tx t k * mq n f i j 0 + tx t (3 + k) * mq n f i j 1 + tx t (6 + k) * mq n f i j 2 = mq n (fa t f) (rotI n (qu t f) i j) (rotJ n (qu t f) i j) k := by
  have h1 := turn_mid t ht f hf k hk
  have h2 := turn_east t ht f hf k hk
  have h3 := turn_north t ht f hf k hk
  obtain ⟨hg, hq⟩ := fa_lt t ht f hf
  obtain ⟨o0, o1, o2, o3⟩ := ou_fc (fa t f) hg k hk
  unfold mq
  simp only [Nat.add_zero, show 3 + 1 = 4 from rfl, show 3 + 2 = 5 from rfl, show 6 + 1 = 7 from rfl, show 6 + 2 = 8 from rfl]
  generalize fa t f = g at *
  obtain h | h | h | h : qu t f = 0 ∨ qu t f = 1 ∨ qu t f = 2 ∨ qu t f = 3 := by omega
  all_goals
    rw [h] at h2 h3 ⊢
    simp only [rotI, rotJ, if_true, if_false, Nat.reduceEqDiff, Nat.reduceAdd, Nat.reduceMod, reduceIte] at *
  · rw [o0] at h2; rw [o1] at h3
    grind
  · rw [o1] at h2; rw [o2] at h3
    have e : ((n - 1 - j : Nat) : Int) = n - 1 - j := by omega
    rw [e]
    grind
  · rw [o2] at h2; rw [o3] at h3
    have e : ((n - 1 - j : Nat) : Int) = n - 1 - j := by omega
    have e' : ((n - 1 - i : Nat) : Int) = n - 1 - i := by omega
    rw [e, e']
    grind
  · rw [o3] at h2; rw [o0] at h3
    have e' : ((n - 1 - i : Nat) : Int) = n - 1 - i := by omega
    rw [e']
    grind
theorem frame_dot : ∀ f, f < 6 → (fc f 0 * fc f 3 + fc f 1 * fc f 4 + fc f 2 * fc f 5 = 0 ∧ fc f 0 * fc f 6 + fc f 1 * fc f 7 + fc f 2 * fc f 8 = 0 ∧ fc f 3 * fc f 6 + fc f 4 * fc f 7 + fc f 5 * fc f 8 = 0) ∧
    fc f 3 * fc f 3 + fc f 4 * fc f 4 + fc f 5 * fc f 5 = 1 ∧ fc f 6 * fc f 6 + fc f 7 * fc f 7 + fc f 8 * fc f 8 = 1 := by decide +kernel
theorem mq_dot {n i j : Int} {f : Nat} (hf : f < 6) : mq n f i j 0 * fc f 3 + mq n f i j 1 * fc f 4 + mq n f i j 2 * fc f 5 = 2 * i + 1 - n ∧ mq n f i j 0 * fc f 6 + mq n f i j 1 * fc f 7 + mq n f i j 2 * fc f 8 = 2 * j + 1 - n := by
  obtain ⟨⟨h1, h2, h3⟩, h4, h5⟩ := frame_dot f hf
  unfold mq
  simp only [Nat.add_zero, show 3 + 1 = 4 from rfl, show 3 + 2 = 5 from rfl, show 6 + 1 = 7 from rfl, show 6 + 2 = 8 from rfl]
  constructor <;> grind
theorem idx_mid {n : Int} (i : Int) (hi : 0 ≤ i ∧ i < n) : idxI n (2 * i + 1 - n) = i := by
  unfold idxI
  rw [show 2 * i + 1 - n + n - 1 = 2 * i by omega]
  split <;> split <;> omega

theorem getT_cube {k : Nat} (h : k < 54) : getT (rowI cubeL) k = I (cubeL.getD k 0) ∧ ltL k (rowI cubeL) = true := by
  have : ∀ k, k < 54 → ltL k (rowI cubeL) = true := by decide +kernel
  refine ⟨?_, this k h⟩
  have hl : cubeL.length = 54 := rfl
  rw [getT_eq, List.getD_eq_getElem?_getD, rowI, List.getElem?_map, List.getElem?_eq_getElem (by omega), List.getD_eq_getElem?_getD, List.getElem?_eq_getElem (by omega)]
  rfl
theorem cube_br {off f k : Nat} {K : V → Prop} (hf : f < 6) (hk9 : k < 9) (ho : off = f * 9 + k) (hk : K (I (fc f k))) : br (ltL off (rowI cubeL)) (fV (getT (rowI cubeL) off) K) False := by
  subst ho
  obtain ⟨h1, h2⟩ := getT_cube (k := f * 9 + k) (by omega)
  refine br_yes h2 ?_
  rw [h1]; exact hk
theorem cube_m0 {f : Nat} {K : V → Prop} (hf : f < 6) (hk : K (I (fc f 0))) : br (ltL (0 + f * 9 + 0 * 3) (rowI cubeL)) (fV (getT (rowI cubeL) (0 + f * 9 + 0 * 3)) K) False := cube_br hf (by decide) (by omega) hk
theorem cube_m1 {f : Nat} {K : V → Prop} (hf : f < 6) (hk : K (I (fc f 1))) : br (ltL (0 + f * 9 + 0 * 3 + 1) (rowI cubeL)) (fV (getT (rowI cubeL) (0 + f * 9 + 0 * 3 + 1)) K) False := cube_br hf (by decide) (by omega) hk
theorem cube_m2 {f : Nat} {K : V → Prop} (hf : f < 6) (hk : K (I (fc f 2))) : br (ltL (0 + f * 9 + 0 * 3 + 1 + 1) (rowI cubeL)) (fV (getT (rowI cubeL) (0 + f * 9 + 0 * 3 + 1 + 1)) K) False := cube_br hf (by decide) (by omega) hk
theorem cube_f0 {f : Nat} {K : V → Prop} (hf : f < 6) (hk : K (I (fc f 0))) : br (ltL (0 + f * 9) (rowI cubeL)) (fV (getT (rowI cubeL) (0 + f * 9)) K) False := cube_br hf (by decide) (by omega) hk
theorem cube_f1 {f : Nat} {K : V → Prop} (hf : f < 6) (hk : K (I (fc f 1))) : br (ltL (0 + f * 9 + 1) (rowI cubeL)) (fV (getT (rowI cubeL) (0 + f * 9 + 1)) K) False := cube_br hf (by decide) (by omega) hk
theorem cube_f2 {f : Nat} {K : V → Prop} (hf : f < 6) (hk : K (I (fc f 2))) : br (ltL (0 + f * 9 + 1 + 1) (rowI cubeL)) (fV (getT (rowI cubeL) (0 + f * 9 + 1 + 1)) K) False := cube_br hf (by decide) (by omega) hk
theorem cube_f3 {f : Nat} {K : V → Prop} (hf : f < 6) (hk : K (I (fc f 3))) : br (ltL (0 + f * 9 + 1 + 1 + 1) (rowI cubeL)) (fV (getT (rowI cubeL) (0 + f * 9 + 1 + 1 + 1)) K) False := cube_br hf (by decide) (by omega) hk
theorem cube_f4 {f : Nat} {K : V → Prop} (hf : f < 6) (hk : K (I (fc f 4))) : br (ltL (0 + f * 9 + 1 + 1 + 1 + 1) (rowI cubeL)) (fV (getT (rowI cubeL) (0 + f * 9 + 1 + 1 + 1 + 1)) K) False := cube_br hf (by decide) (by omega) hk
theorem cube_f5 {f : Nat} {K : V → Prop} (hf : f < 6) (hk : K (I (fc f 5))) : br (ltL (0 + f * 9 + 1 + 1 + 1 + 1 + 1) (rowI cubeL)) (fV (getT (rowI cubeL) (0 + f * 9 + 1 + 1 + 1 + 1 + 1)) K) False := cube_br hf (by decide) (by omega) hk
theorem cube_f6 {f : Nat} {K : V → Prop} (hf : f < 6) (hk : K (I (fc f 6))) : br (ltL (0 + f * 9 + 1 + 1 + 1 + 1 + 1 + 1) (rowI cubeL)) (fV (getT (rowI cubeL) (0 + f * 9 + 1 + 1 + 1 + 1 + 1 + 1)) K) False := cube_br hf (by decide) (by omega) hk
theorem cube_f7 {f : Nat} {K : V → Prop} (hf : f < 6) (hk : K (I (fc f 7))) : br (ltL (0 + f * 9 + 1 + 1 + 1 + 1 + 1 + 1 + 1) (rowI cubeL)) (fV (getT (rowI cubeL) (0 + f * 9 + 1 + 1 + 1 + 1 + 1 + 1 + 1)) K) False := cube_br hf (by decide) (by omega) hk
theorem cube_f8 {f : Nat} {K : V → Prop} (hf : f < 6) (hk : K (I (fc f 8))) : br (ltL (0 + f * 9 + 1 + 1 + 1 + 1 + 1 + 1 + 1 + 1) (rowI cubeL)) (fV (getT (rowI cubeL) (0 + f * 9 + 1 + 1 + 1 + 1 + 1 + 1 + 1 + 1)) K) False := cube_br hf (by decide) (by omega) hk
theorem tri_yes (a b c : Int) : (a == a && (b == b && (c == c && true))) = true := by simp
theorem tri_no {a b c d e f : Int} (h : ¬ (a = d ∧ b = e ∧ c = f)) : (a == d && (b == e && (c == f && true))) = false := by
  rw [Bool.eq_false_iff]
  intro h'
  simp only [Bool.and_eq_true, beq_iff_eq, and_true] at h'
  exact h h'
theorem ou_ne' : ∀ g, g < 6 → ∀ s, s < 4 → ∀ q, q < 4 → (s = q ∨ ¬ (ou g s 0 = ou g q 0 ∧ ou g s 1 = ou g q 1 ∧ ou g s 2 = ou g q 2)) := by decide +kernel
theorem ou_ne (g : Nat) (hg : g < 6) (s : Nat) (hs : s < 4) (q : Nat) (hq : q < 4) (h : s ≠ q) : ¬ (ou g s 0 = ou g q 0 ∧ ou g s 1 = ou g q 1 ∧ ou g s 2 = ou g q 2) := (ou_ne' g hg s hs q hq).resolve_left h
theorem face_mid : ∀ f, f < 6 → face3 (fc f 0) (fc f 1) (fc f 2) = some f := by decide +kernel
set_option maxHeartbeats 0 in
theorem turn_walk (n f i j t : Nat) (hn : 1 ≤ n) (hn' : n ≤ 32) (hf : f < 6) (hi : i < n) (hj : j < n) (ht : t < 24) (x : List Blk) :
    COk Tryz.prog 3 36 [I n, I t, I (cellN n f i j)] (GG x) (.tup [I (cellN n (fa t f) (rotI n (qu t f) i j) (rotJ n (qu t f) i j)), I (qu t f)]) (GG x) := by
  refine lift ?_ rfl x
  refine COk_quiet Tryz.f36 Tryz.func36 (by kernel_rfl) rfl ?_
  obtain ⟨hg, hq⟩ := fa_lt t ht f hf
  have u := fc_unit f hf
  have ub : ∀ k, k < 9 → -200 ≤ fc f k ∧ fc f k ≤ 200 := fun k hk => by
    rcases u k hk with h | h | h <;> rw [h] <;> decide
  have hT1 := turned_ok t ht (ub 0 (by decide)) (ub 1 (by decide)) (ub 2 (by decide)) (turn_mid t ht f hf 0 (by decide)) (turn_mid t ht f hf 1 (by decide)) (turn_mid t ht f hf 2 (by decide))
  have hn0 : (1 : Int) ≤ n ∧ (n : Int) ≤ 32 := ⟨by omega, by omega⟩
  have hi0 : (0 : Int) ≤ i ∧ (i : Int) < n := ⟨by omega, by omega⟩
  have hj0 : (0 : Int) ≤ j ∧ (j : Int) < n := ⟨by omega, by omega⟩
  have hT2 := turned_ok t ht (mq_bd hf (k := 0) (by decide) hn0 hi0 hj0) (mq_bd hf (k := 1) (by decide) hn0 hi0 hj0) (mq_bd hf (k := 2) (by decide) hn0 hi0 hj0) (turn_mq ht hf hi hj (k := 0) (by decide)) (turn_mq ht hf hi hj (k := 1) (by decide)) (turn_mq ht hf hi hj (k := 2) (by decide))
  have hT3 := turned_ok t ht (ub 3 (by decide)) (ub 4 (by decide)) (ub 5 (by decide)) (turn_east t ht f hf 0 (by decide)) (turn_east t ht f hf 1 (by decide)) (turn_east t ht f hf 2 (by decide))
  have hmid := fun x => middle_ok f n i j hf (by omega) (by omega) (by omega) x
  rw [midP_mq n i j f hf] at hmid
  have hface := fun x => face3_ok (fc (fa t f) 0) (fc (fa t f) 1) (fc (fa t f) 2) (fa t f) (face_mid _ hg) x
  have hri : rotI n (qu t f) i j < n ∧ rotJ n (qu t f) i j < n := by
    unfold rotI rotJ
    constructor <;> (repeat' split) <;> omega
  obtain ⟨d1, d2⟩ := mq_dot (n := n) (i := rotI n (qu t f) i j) (j := rotJ n (qu t f) i j) hg
  generalize rotI n (qu t f) i j = i' at *
  generalize rotJ n (qu t f) i j = j' at *
  generalize fa t f = g at *
  generalize hqq : qu t f = q at *
  have uu := fc_unit g hg
  have hi0' : (0 : Int) ≤ i' ∧ (i' : Int) < n := ⟨by omega, by omega⟩
  have hj0' : (0 : Int) ≤ j' ∧ (j' : Int) < n := ⟨by omega, by omega⟩
  have bq := fun k hk => mq_bd (f := g) hg (k := k) hk hn0 hi0' hj0'
  have x1 : dotI (mq n g i' j' 0) (mq n g i' j' 1) (mq n g i' j' 2) (fc g 3) (fc g 4) (fc g 5) = 2 * i' + 1 - n := by
    rw [dot_lin _ _ _ _ _ _ (bq 0 (by decide)) (bq 1 (by decide)) (bq 2 (by decide)) (uu 3 (by decide)) (uu 4 (by decide)) (uu 5 (by decide)), d1]
  have x2 : dotI (mq n g i' j' 0) (mq n g i' j' 1) (mq n g i' j' 2) (fc g 6) (fc g 7) (fc g 8) = 2 * j' + 1 - n := by
    rw [dot_lin _ _ _ _ _ _ (bq 0 (by decide)) (bq 1 (by decide)) (bq 2 (by decide)) (uu 6 (by decide)) (uu 7 (by decide)) (uu 8 (by decide)), d2]
  have hD1 := fun x => dot_ok (mq n g i' j' 0) (mq n g i' j' 1) (mq n g i' j' 2) (fc g 3) (fc g 4) (fc g 5) x
  have hD2 := fun x => dot_ok (mq n g i' j' 0) (mq n g i' j' 1) (mq n g i' j' 2) (fc g 6) (fc g 7) (fc g 8) x
  rw [x1] at hD1
  rw [x2] at hD2
  have hI1 := fun m => index_ok n (2 * i' + 1 - n) hn0 (by omega) m
  have hI2 := fun m => index_ok n (2 * j' + 1 - n) hn0 (by omega) m
  rw [idx_mid _ hi0'] at hI1
  rw [idx_mid _ hj0'] at hI2
  have hC := fun m => cell_in n g i' j' hn hn' hg hri.1 hri.2 m
  (conv => whnf); repeat ((first | refine ⟨_, _, place_in n f i j hn hn' hf hi hj _, ?_⟩ | refine ⟨_, place_in n f i j hn hn' hf hi hj _, ?_⟩ | refine ⟨_, _, axes_ok t ht _, ?_⟩ | refine ⟨_, axes_ok t ht _, ?_⟩ | refine ⟨_, _, hT1 _, ?_⟩ | refine ⟨_, hT1 _, ?_⟩ | refine ⟨_, _, hface _, ?_⟩ | refine ⟨_, hface _, ?_⟩ | refine cube_m0 hf ?_ | refine cube_m1 hf ?_ | refine cube_m2 hf ?_ | refine cube_f0 hf ?_ | refine cube_f1 hf ?_ | refine cube_f2 hf ?_ | refine cube_f3 hf ?_ | refine cube_f4 hf ?_ | refine cube_f5 hf ?_ | refine cube_f6 hf ?_ | refine cube_f7 hf ?_ | refine cube_f8 hf ?_ | refine cube_f0 hg ?_ | refine cube_f1 hg ?_ | refine cube_f2 hg ?_ | refine cube_f3 hg ?_ | refine cube_f4 hg ?_ | refine cube_f5 hg ?_ | refine cube_f6 hg ?_ | refine cube_f7 hg ?_ | refine cube_f8 hg ?_ | refine ⟨_, _, hmid _, ?_⟩ | refine ⟨_, hmid _, ?_⟩ | refine ⟨_, _, hT2 _, ?_⟩ | refine ⟨_, hT2 _, ?_⟩ | refine ⟨_, _, hD1 _, ?_⟩ | refine ⟨_, hD1 _, ?_⟩ | refine ⟨_, _, hD2 _, ?_⟩ | refine ⟨_, hD2 _, ?_⟩ | refine ⟨_, _, hI1 _, ?_⟩ | refine ⟨_, hI1 _, ?_⟩ | refine ⟨_, _, hI2 _, ?_⟩ | refine ⟨_, hI2 _, ?_⟩ | refine ⟨_, _, hC _, ?_⟩ | refine ⟨_, hC _, ?_⟩ | refine ⟨_, _, out0_ok _ _ _ _ _ _ _ _ _ _, ?_⟩ | refine ⟨_, out0_ok _ _ _ _ _ _ _ _ _ _, ?_⟩ | refine ⟨_, _, hT3 _, ?_⟩ | refine ⟨_, hT3 _, ?_⟩ | refine br_d (by omega) ?_ | refine br_nd (by omega) ?_ | refine br_eq (by omega) ?_ | refine br_neq (by omega) ?_ | refine br_ne (by omega) ?_ | refine br_no (bo_eqn (by omega)) ?_ | refine Or.inl ?_ | refine okS_no (by kernel_rfl) ?_ | refine okS_yes (by kernel_rfl) ?_ | refine And_of (by (conv => whnf); (rw [getB_app0]); (conv => whnf)) ?_ | refine setB_app ?_ | refine setB_app0 ?_ | rw [getB_app] | rw [getB_app0] | refine addB_f13 ?_ | refine addB_f12 ?_ | refine addB_f11 ?_ | refine addB_f10 ?_ | refine addB_f9 ?_ | refine addB_f8 ?_ | refine addB_f7 ?_ | refine addB_f6 ?_ | refine addB_f5 ?_ | refine addB_f4 ?_ | refine addB_f3 ?_ | refine addB_f2 ?_ | refine addB_f1 ?_ | refine addB_f0 ?_); conv => whnf)
  have hO := fun s hs x => out_ok g s hg hs x
  have w1 : W3 (frL g) = fcV g := by
    obtain rfl | rfl | rfl | rfl | rfl | rfl : g = 0 ∨ g = 1 ∨ g = 2 ∨ g = 3 ∨ g = 4 ∨ g = 5 := by omega
    all_goals rfl
  have w2 : ∀ s, s < 4 → W3 (outL g s) = V3 (ou g s 0) (ou g s 1) (ou g s 2) := by
    intro s hs
    obtain rfl | rfl | rfl | rfl | rfl | rfl : g = 0 ∨ g = 1 ∨ g = 2 ∨ g = 3 ∨ g = 4 ∨ g = 5 := by omega
    all_goals
      obtain rfl | rfl | rfl | rfl : s = 0 ∨ s = 1 ∨ s = 2 ∨ s = 3 := by omega
      all_goals rfl
  have hO0 := hO 0 (by decide)
  have hO1 := hO 1 (by decide)
  have hO2 := hO 2 (by decide)
  have hO3 := hO 3 (by decide)
  rw [w1, w2 0 (by decide)] at hO0
  rw [w1, w2 1 (by decide)] at hO1
  rw [w1, w2 2 (by decide)] at hO2
  rw [w1, w2 3 (by decide)] at hO3
  have hne := ou_ne g hg
  have n01 := hne 0 (by decide) 1 (by decide) (by decide)
  have n02 := hne 0 (by decide) 2 (by decide) (by decide)
  have n03 := hne 0 (by decide) 3 (by decide) (by decide)
  have n12 := hne 1 (by decide) 2 (by decide) (by decide)
  have n13 := hne 1 (by decide) 3 (by decide) (by decide)
  have n23 := hne 2 (by decide) 3 (by decide) (by decide)
  obtain rfl | rfl | rfl | rfl : q = 0 ∨ q = 1 ∨ q = 2 ∨ q = 3 := by omega
  all_goals
    repeat (first | (refine br_yes (tri_yes _ _ _) ?_; conv => whnf) | (refine br_no (tri_no (by assumption)) ?_; conv => whnf) | (refine lr ?_; conv => whnf) | (refine ⟨_, hO0 _, ?_⟩; conv => whnf) | (refine ⟨_, hO1 _, ?_⟩; conv => whnf) | (refine ⟨_, hO2 _, ?_⟩; conv => whnf) | (refine ⟨_, hO3 _, ?_⟩; conv => whnf))
    exact ⟨rfl, _, rfl⟩
end Go.Proofs.YtgoljofmbidkfaaGreatDoor
