import Derived.Test.YtgoljofmbidkfaaGreatDoorF
import Derived.Test.YtgoljofmbidkfaaGreatDoorJ
import Derived.Test.YtgoljofmbidkfaaGreatDoorZa
/- Tables of numbers by place; sums in two words; slices that are read; memory that grows, kept shut. No condition. -/
namespace Go.Proofs.YtgoljofmbidkfaaGreatDoor
open Go Go.Eng
set_option maxRecDepth 100000
set_option linter.unusedSimpArgs false
set_option linter.unusedVariables false

/-- A list by its places. -/
def tab {α : Type} (n : Nat) (G : Nat → α) : List α := (List.range n).map G
section
variable {α : Type}
theorem tab_len (n : Nat) (G : Nat → α) : (tab n G).length = n := by simp [tab]
theorem tab_get? (n : Nat) (G : Nat → α) (i : Nat) : (tab n G)[i]? = if i < n then some (G i) else none := by
  unfold tab
  rw [List.getElem?_map]
  by_cases h : i < n
  · rw [if_pos h, List.getElem?_range h]; rfl
  · rw [if_neg h, List.getElem?_eq_none (by simpa using h)]; rfl
theorem tab_get {n : Nat} {G : Nat → α} {i : Nat} {d : α} (h : i < n) : (tab n G).getD i d = G i := by
  rw [List.getD_eq_getElem?_getD, tab_get?, if_pos h]; rfl
theorem tab_congr {n : Nat} {F G : Nat → α} (h : ∀ i, i < n → F i = G i) : tab n F = tab n G := by
  apply List.ext_getElem?
  intro i
  rw [tab_get?, tab_get?]
  by_cases hi : i < n
  · rw [if_pos hi, if_pos hi, h i hi]
  · rw [if_neg hi, if_neg hi]
theorem tab_set (n : Nat) (G : Nat → α) (i : Nat) (v : α) : (tab n G).set i v = tab n fun j => if j = i then v else G j := by
  apply List.ext_getElem?
  intro j
  rw [List.getElem?_set, tab_get?, tab_get?, tab_len]
  by_cases h : i = j
  · subst h
    rw [if_pos rfl]
    by_cases hi : i < n
    · rw [if_pos hi, if_pos hi, if_pos rfl]
    · rw [if_neg hi, if_neg hi]
  · rw [if_neg h]
    by_cases hi : j < n
    · rw [if_pos hi, if_pos hi, if_neg (fun e => h e.symm)]
    · rw [if_neg hi, if_neg hi]
theorem tab_rep (n : Nat) (v : α) : List.replicate n v = tab n fun _ => v := by
  apply List.ext_getElem?
  intro i
  rw [tab_get?, List.getElem?_replicate]
theorem tab_list (l : List α) (d : α) : l = tab l.length fun i => l.getD i d := by
  apply List.ext_getElem?
  intro i
  rw [tab_get?]
  by_cases h : i < l.length
  · rw [if_pos h, List.getD_eq_getElem?_getD, List.getElem?_eq_getElem h]; rfl
  · rw [if_neg h, List.getElem?_eq_none (by omega)]
theorem tab_succ (n : Nat) (G : Nat → α) : tab (n + 1) G = tab n G ++ [G n] := by
  simp [tab, List.range_succ]
end

/-! ### A whole number in two words of 64 bits -/
def hiZ (z : Int) : Int := z / 18446744073709551616 % 18446744073709551616
def loZ (z : Int) : Int := z % 18446744073709551616
theorem wrapI_mod (n : Int) : IntKind.i64.wrap n = if n % 18446744073709551616 < 9223372036854775808 then n % 18446744073709551616 else n % 18446744073709551616 - 18446744073709551616 := by
  have key : IntKind.i64.wrap n = if (true && decide (n % 2 ^ 64 ≥ (2 ^ 63 : Int))) = true then n % 2 ^ 64 - 2 ^ 64 else n % 2 ^ 64 := rfl
  rw [key]
  simp only [Bool.true_and, decide_eq_true_eq]
  split <;> split <;> omega
abbrev in64 (x : Int) : Prop := -9223372036854775808 ≤ x ∧ x < 9223372036854775808
/-- The numbers l lie in block j, from cell o on. -/
structure SlI (M : List Blk) (j o : Nat) (l : List Int) : Prop where
  rd : ∀ i, i < l.length → ∀ K : V → Prop, K (.int .i64 (l.getD i 0)) → rd1 (getB M j).b (o + i) K
  live : (getB M j).b.live = true
  wf : ∀ i, i < l.length → in64 (l.getD i 0)
  short : l.length < 4611686018427387904
theorem SlI.app {M : List Blk} {j o : Nat} {l : List Int} (h : SlI M j o l) (x : List Blk) : SlI (M ++ x) j o l := by
  have e : getB (M ++ x) j = getB M j := getB_in rfl h.live
  exact ⟨by rw [e]; exact h.rd, by rw [e]; exact h.live, h.wf, h.short⟩
theorem SlI.lt {M : List Blk} {j o : Nat} {l : List Int} (h : SlI M j o l) : j < M.length := getB_lt rfl h.live
theorem SlI.at {M : List Blk} {j o : Nat} {l : List Int} (h : SlI M j o l) {i off : Nat} {K : V → Prop} (hi : i < l.length) (ho : off = o + i * 1) (hk : K (.int .i64 (l.getD i 0))) : rd1 (getB M j).b off K := by
  rw [Nat.mul_one] at ho; subst ho; exact h.rd i hi K hk
/-- A block of plain numbers. -/
theorem SlI.ints {M : List Blk} {j o : Nat} {w : Bool} {L l : List Int} (h : getB M j = ⟨w, .ints .i64 L⟩) (hl : ∀ i, i < l.length → o + i < L.length ∧ L.getD (o + i) 0 = l.getD i 0) (hw : ∀ i, i < l.length → in64 (l.getD i 0)) (hs : l.length < 4611686018427387904) : SlI M j o l :=
  ⟨fun i hi K hk => by
    rw [h]
    obtain ⟨h1, h2⟩ := hl i hi
    refine br_yes (by simpa using h1) ?_
    rw [h2]; exact hk, by rw [h]; rfl, hw, hs⟩
/-- A slice of numbers, or none. -/
def Sli (M : List Blk) (v : V) (l : List Int) : Prop := (v = .raw (.slice none 0 0) ∧ l = []) ∨ ∃ j o, v = .sl j o l.length ∧ SlI M j o l
theorem Sli.app {M : List Blk} {v : V} {l : List Int} (h : Sli M v l) (x : List Blk) : Sli (M ++ x) v l := by
  rcases h with h | ⟨j, o, h1, h2⟩
  · exact .inl h
  · exact .inr ⟨j, o, h1, h2.app x⟩
theorem Sli.wf {M : List Blk} {v : V} {l : List Int} (h : Sli M v l) : (∀ i, i < l.length → in64 (l.getD i 0)) ∧ l.length < 4611686018427387904 := by
  rcases h with ⟨_, rfl⟩ | ⟨j, o, _, h⟩
  · exact ⟨fun i hi => absurd hi (Nat.not_lt_zero i), by decide⟩
  · exact ⟨h.wf, h.short⟩
theorem wrapKL {k : Nat} (h : k < 4611686018427387904) : V.int .i64 (IntKind.i64.wrap ((k : Int) + 1)) = I ((k + 1 : Nat) : Int) := by
  rw [wrap_id (by omega) (by omega)]; rfl
/-- The sum of the first k. -/
def ps (l : List Int) : Nat → Int
  | 0 => 0
  | k + 1 => ps l k + l.getD k 0
/-- The sum of the first k, from z on. -/
def pz (l : List Int) (z : Int) : Nat → Int
  | 0 => z
  | k + 1 => pz l z k + l.getD k 0
theorem pz_ps (l : List Int) (z : Int) : ∀ k, pz l z k = z + ps l k
  | 0 => by simp [pz, ps]
  | k + 1 => by simp only [pz, ps, pz_ps l z k]; omega
abbrev nilS' : V := .raw (.slice none 0 0)

/-- M' is M and more. -/
structure Up (M M' : List Blk) : Prop where
  ex : ∃ x, M' = M ++ x
  sc : scM M'.length M' = true
theorem Up.of {M x : List Blk} (hsc : scM M.length M = true) (hx : scM (M ++ x).length x = true) : Up M (M ++ x) :=
  ⟨⟨x, rfl⟩, scM_app (scM_mono (by simp) _ hsc) hx⟩
theorem Up.trans {A B C : List Blk} (h : Up A B) (k : Up B C) : Up A C := by
  obtain ⟨⟨x, rfl⟩, _⟩ := h
  obtain ⟨⟨y, rfl⟩, k⟩ := k
  exact ⟨⟨x ++ y, by rw [List.append_assoc]⟩, k⟩
theorem Up.len {M M' : List Blk} (h : Up M M') : M.length ≤ M'.length := by
  obtain ⟨x, rfl⟩ := h.ex; simp
theorem Up.app {M M' : List Blk} (h : Up M M') (x : List Blk) : ∃ y, M' ++ x = M ++ y := by
  obtain ⟨y, rfl⟩ := h.ex; exact ⟨y ++ x, by rw [List.append_assoc]⟩
theorem SlI.up {M M' : List Blk} {j o : Nat} {l : List Int} (h : SlI M j o l) (u : Up M M') : SlI M' j o l := by
  obtain ⟨x, rfl⟩ := u.ex; exact h.app x
theorem Sli.up {M M' : List Blk} {v : V} {l : List Int} (h : Sli M v l) (u : Up M M') : Sli M' v l := by
  obtain ⟨x, rfl⟩ := u.ex; exact h.app x
theorem Net.up {M M' : List Blk} {b n : Nat} (h : Net M b n) (u : Up M M') : Net M' b n := by
  obtain ⟨x, rfl⟩ := u.ex; exact h.more x
theorem Top.up {M M' : List Blk} (h : Top M) (u : Up M M') : Top M' := by
  obtain ⟨x, rfl⟩ := u.ex; exact h.app x
theorem Top.ng {M : List Blk} (h : Top M) : 3 ≤ M.length := by
  obtain ⟨x, rfl⟩ := h; simp
theorem new_up {M : List Blk} (hm : Top M) (hsc : scM M.length M = true) (n : Nat) (hn : 1 ≤ n) (hn' : n ≤ 32) : ∃ b M', COk Tryz.prog 3 15 [I n] M (.tup [.ptr (b + 1) 0, I 0]) M' ∧ Net M' b n ∧ Up M M' := by
  obtain ⟨x, rfl⟩ := hm
  obtain ⟨b, M', h1, h2, h3, y, h4⟩ := new_shut_sc n hn hn' x hsc
  exact ⟨b, M', h1, h2, ⟨⟨y, h4⟩, h3⟩⟩
theorem getT_row : ∀ (l : List Int) (i : Nat), i < l.length → getT (rowI l) i = I (l.getD i 0) ∧ ltL i (rowI l) = true
  | [], i, h => absurd h (Nat.not_lt_zero i)
  | a :: l, 0, _ => ⟨rfl, rfl⟩
  | a :: l, i + 1, h => by
    obtain ⟨h1, h2⟩ := getT_row l i (by simpa using h)
    exact ⟨by simpa [rowI, getT] using h1, by simpa [rowI, ltL] using h2⟩
/-- A literal slice. -/
theorem SlI.lit {M : List Blk} {j : Nat} {w : Bool} {l : List Int} (h : getB M j = ⟨w, .cells (rowI l)⟩) (hw : ∀ x ∈ l, in64 x) (hs : l.length < 4611686018427387904) : SlI M j 0 l :=
  ⟨fun i hi K hk => by
    rw [h]
    obtain ⟨h1, h2⟩ := getT_row l i hi
    rw [Nat.zero_add]
    refine br_yes h2 ?_
    rw [h1]
    exact hk, by rw [h]; rfl, fun i hi => by
      rw [List.getD_eq_getElem?_getD, List.getElem?_eq_getElem hi]
      exact hw _ (List.getElem_mem hi), hs⟩
theorem SlI.tab {M : List Blk} {j : Nat} {w : Bool} {N : Nat} {G : Nat → Int} (h : getB M j = ⟨w, .ints .i64 (tab N G)⟩) (hw : ∀ i, i < N → in64 (G i)) (hs : N < 4611686018427387904) : SlI M j 0 (tab N G) :=
  SlI.ints h (fun i hi => ⟨by rw [Nat.zero_add]; exact hi, by rw [Nat.zero_add]⟩) (fun i hi => by
    rw [tab_len] at hi
    rw [tab_get hi]; exact hw i hi) (by rw [tab_len]; exact hs)
theorem Sli.of {M : List Blk} {j o : Nat} {l : List Int} (h : SlI M j o l) : Sli M (.sl j o l.length) l := .inr ⟨j, o, rfl, h⟩
theorem Sli.none (M : List Blk) : Sli M nilS' [] := .inl ⟨rfl, rfl⟩
end Go.Proofs.YtgoljofmbidkfaaGreatDoor
/- Package cube: Turn. No condition. -/
namespace Go.Proofs.YtgoljofmbidkfaaGreatDoor
open Go Go.Eng
set_option maxRecDepth 100000
set_option linter.unusedSimpArgs false
set_option linter.unusedVariables false

/-- Where the turns take the axes. -/
def axT : List (List Int) := [[1, 0, 0, 0, 1, 0, 0, 0, 1],
  [1, 0, 0, 0, -1, 0, 0, 0, -1],
  [1, 0, 0, 0, 0, 1, 0, -1, 0],
  [1, 0, 0, 0, 0, -1, 0, 1, 0],
  [0, 1, 0, 1, 0, 0, 0, 0, -1],
  [0, 1, 0, -1, 0, 0, 0, 0, 1],
  [0, 1, 0, 0, 0, 1, 1, 0, 0],
  [0, 1, 0, 0, 0, -1, -1, 0, 0],
  [-1, 0, 0, 0, 1, 0, 0, 0, -1],
  [-1, 0, 0, 0, -1, 0, 0, 0, 1],
  [-1, 0, 0, 0, 0, 1, 0, 1, 0],
  [-1, 0, 0, 0, 0, -1, 0, -1, 0],
  [0, -1, 0, 1, 0, 0, 0, 0, 1],
  [0, -1, 0, -1, 0, 0, 0, 0, -1],
  [0, -1, 0, 0, 0, 1, -1, 0, 0],
  [0, -1, 0, 0, 0, -1, 1, 0, 0],
  [0, 0, 1, 1, 0, 0, 0, 1, 0],
  [0, 0, 1, 0, 1, 0, -1, 0, 0],
  [0, 0, 1, -1, 0, 0, 0, -1, 0],
  [0, 0, 1, 0, -1, 0, 1, 0, 0],
  [0, 0, -1, 1, 0, 0, 0, -1, 0],
  [0, 0, -1, 0, 1, 0, 1, 0, 0],
  [0, 0, -1, -1, 0, 0, 0, 1, 0],
  [0, 0, -1, 0, -1, 0, -1, 0, 0]]
/-- Where they take the faces; by how many sides the sides are turned. -/
def faT : List (List Nat) := [[0, 1, 2, 3, 4, 5], [0, 3, 2, 1, 5, 4], [0, 4, 2, 5, 3, 1], [0, 5, 2, 4, 1, 3], [1, 0, 3, 2, 5, 4], [1, 2, 3, 0, 4, 5], [1, 4, 3, 5, 0, 2], [1, 5, 3, 4, 2, 0], [2, 1, 0, 3, 5, 4], [2, 3, 0, 1, 4, 5], [2, 4, 0, 5, 1, 3], [2, 5, 0, 4, 3, 1], [3, 0, 1, 2, 4, 5], [3, 2, 1, 0, 5, 4], [3, 4, 1, 5, 2, 0], [3, 5, 1, 4, 0, 2], [4, 0, 5, 2, 1, 3], [4, 1, 5, 3, 2, 0], [4, 2, 5, 0, 3, 1], [4, 3, 5, 1, 0, 2], [5, 0, 4, 2, 3, 1], [5, 1, 4, 3, 0, 2], [5, 2, 4, 0, 1, 3], [5, 3, 4, 1, 2, 0]]
def quT : List (List Nat) := [[0, 0, 0, 0, 0, 0], [2, 2, 2, 2, 2, 2], [1, 1, 3, 1, 1, 1], [3, 3, 1, 3, 3, 3], [2, 2, 2, 2, 1, 3], [0, 0, 0, 0, 1, 3], [1, 2, 3, 0, 1, 1], [3, 2, 1, 0, 3, 3], [2, 2, 2, 2, 0, 0], [0, 0, 0, 0, 2, 2], [1, 3, 3, 3, 1, 1], [3, 1, 1, 1, 3, 3], [0, 0, 0, 0, 3, 1], [2, 2, 2, 2, 3, 1], [1, 0, 3, 2, 1, 1], [3, 0, 1, 2, 3, 3], [3, 3, 3, 1, 2, 0], [0, 3, 2, 1, 2, 0], [1, 3, 1, 1, 2, 0], [2, 3, 0, 1, 2, 0], [1, 1, 1, 3, 0, 2], [0, 1, 2, 3, 0, 2], [3, 1, 3, 3, 0, 2], [2, 1, 0, 3, 0, 2]]
def tx (t k : Nat) : Int := (axT.getD t []).getD k 0
def fa (t f : Nat) : Nat := (faT.getD t []).getD f 0
def qu (t f : Nat) : Nat := (quT.getD t []).getD f 0
/-- A face's frame. -/
def fc (f k : Nat) : Int := cubeL.getD (f * 9 + k) 0
/-- The way over a side. -/
def ou (f s k : Nat) : Int := (outL f s).getD k 0
theorem tx_unit : ∀ t, t < 24 → ∀ k, k < 9 → tx t k = 0 ∨ tx t k = 1 ∨ tx t k = -1 := by decide +kernel
theorem fc_unit : ∀ f, f < 6 → ∀ k, k < 9 → fc f k = 0 ∨ fc f k = 1 ∨ fc f k = -1 := by decide +kernel
theorem fa_lt : ∀ t, t < 24 → ∀ f, f < 6 → fa t f < 6 ∧ qu t f < 4 := by decide +kernel
/-- A turn takes a face's middle, east and north to those of the other face, its sides turned. -/
theorem turn_mid : ∀ t, t < 24 → ∀ f, f < 6 → ∀ k, k < 3 → tx t k * fc f 0 + tx t (3 + k) * fc f 1 + tx t (6 + k) * fc f 2 = fc (fa t f) k := by decide +kernel
theorem turn_east : ∀ t, t < 24 → ∀ f, f < 6 → ∀ k, k < 3 → tx t k * fc f 3 + tx t (3 + k) * fc f 4 + tx t (6 + k) * fc f 5 = ou (fa t f) (qu t f) k := by decide +kernel
theorem turn_north : ∀ t, t < 24 → ∀ f, f < 6 → ∀ k, k < 3 → tx t k * fc f 6 + tx t (3 + k) * fc f 7 + tx t (6 + k) * fc f 8 = ou (fa t f) ((qu t f + 1) % 4) k := by decide +kernel
theorem ou_fc : ∀ f, f < 6 → ∀ k, k < 3 → ou f 0 k = fc f (3 + k) ∧ ou f 1 k = fc f (6 + k) ∧ ou f 2 k = -fc f (3 + k) ∧ ou f 3 k = -fc f (6 + k) := by decide +kernel
/-- The places of a cell in a turned face. -/
def rotI (n q i j : Nat) : Nat := if q = 0 then i else if q = 1 then n - 1 - j else if q = 2 then n - 1 - i else j
def rotJ (n q i j : Nat) : Nat := if q = 0 then j else if q = 1 then i else if q = 2 then n - 1 - j else n - 1 - i
abbrev axV (t : Nat) : V := V9 (tx t 0) (tx t 1) (tx t 2) (tx t 3) (tx t 4) (tx t 5) (tx t 6) (tx t 7) (tx t 8)
abbrev fcV (f : Nat) : V := V9 (fc f 0) (fc f 1) (fc f 2) (fc f 3) (fc f 4) (fc f 5) (fc f 6) (fc f 7) (fc f 8)
set_option maxHeartbeats 0 in
theorem axes_ok (t : Nat) (ht : t < 24) (x : List Blk) : COk Tryz.prog 3 93 [I t] (GG x) (axV t) (GG x) := by
  refine lift ?_ rfl x
  obtain rfl | rfl | rfl | rfl | rfl | rfl | rfl | rfl | rfl | rfl | rfl | rfl | rfl | rfl | rfl | rfl | rfl | rfl | rfl | rfl | rfl | rfl | rfl | rfl : t = 0 ∨ t = 1 ∨ t = 2 ∨ t = 3 ∨ t = 4 ∨ t = 5 ∨ t = 6 ∨ t = 7 ∨ t = 8 ∨ t = 9 ∨ t = 10 ∨ t = 11 ∨ t = 12 ∨ t = 13 ∨ t = 14 ∨ t = 15 ∨ t = 16 ∨ t = 17 ∨ t = 18 ∨ t = 19 ∨ t = 20 ∨ t = 21 ∨ t = 22 ∨ t = 23 := by omega
  all_goals
    refine COk_quiet Tryz.f93 Tryz.func93 (by kernel_rfl) rfl ?_
    (conv => whnf)
    repeat (first | (refine ⟨_, _, dot_ok _ _ _ _ _ _ _, ?_⟩; conv => whnf) | (refine ⟨_, cross_ok _ _ _ _ _ _ _, ?_⟩; conv => whnf) | (refine lr ?_; conv => whnf))
    exact ⟨rfl, _, rfl⟩
/-- A turned way, where nothing wraps. -/
theorem lin3 {a d g : Int} (x y z : Int) (ha : a = 0 ∨ a = 1 ∨ a = -1) (hd : d = 0 ∨ d = 1 ∨ d = -1) (hg : g = 0 ∨ g = 1 ∨ g = -1) (hx : -200 ≤ x ∧ x ≤ 200) (hy : -200 ≤ y ∧ y ≤ 200) (hz : -200 ≤ z ∧ z ≤ 200) :
    IntKind.i64.wrap (IntKind.i64.wrap (IntKind.i64.wrap (x * a) + IntKind.i64.wrap (y * d)) + IntKind.i64.wrap (z * g)) = a * x + d * y + g * z := by
  obtain rfl | rfl | rfl := ha <;> obtain rfl | rfl | rfl := hd <;> obtain rfl | rfl | rfl := hg <;> simp (disch := omega) only [wrap_id] <;> omega
theorem turned_ok (t : Nat) (ht : t < 24) {a b c r0 r1 r2 : Int} (ha : -200 ≤ a ∧ a ≤ 200) (hb : -200 ≤ b ∧ b ≤ 200) (hc : -200 ≤ c ∧ c ≤ 200)
    (e0 : tx t 0 * a + tx t 3 * b + tx t 6 * c = r0) (e1 : tx t 1 * a + tx t 4 * b + tx t 7 * c = r1) (e2 : tx t 2 * a + tx t 5 * b + tx t 8 * c = r2) (x : List Blk) :
    COk Tryz.prog 3 94 [axV t, V3 a b c] (GG x) (V3 r0 r1 r2) (GG x) := by
  refine lift ?_ rfl x
  refine COk_quiet Tryz.f94 Tryz.func94 (by kernel_rfl) rfl ?_
  (conv => whnf); repeat ((first | refine ⟨_, _, times_ok _ _ _ _ _, ?_⟩ | refine ⟨_, times_ok _ _ _ _ _, ?_⟩ | refine ⟨_, _, plus_ok _ _ _ _ _ _ _, ?_⟩ | refine ⟨_, plus_ok _ _ _ _ _ _ _, ?_⟩ | refine br_d (by omega) ?_ | refine br_nd (by omega) ?_ | refine br_eq (by omega) ?_ | refine br_neq (by omega) ?_ | refine br_ne (by omega) ?_ | refine br_no (bo_eqn (by omega)) ?_ | refine Or.inl ?_ | refine okS_no (by kernel_rfl) ?_ | refine okS_yes (by kernel_rfl) ?_ | refine And_of (by (conv => whnf); (rw [getB_app0]); (conv => whnf)) ?_ | refine setB_app ?_ | refine setB_app0 ?_ | rw [getB_app] | rw [getB_app0] | refine addB_f13 ?_ | refine addB_f12 ?_ | refine addB_f11 ?_ | refine addB_f10 ?_ | refine addB_f9 ?_ | refine addB_f8 ?_ | refine addB_f7 ?_ | refine addB_f6 ?_ | refine addB_f5 ?_ | refine addB_f4 ?_ | refine addB_f3 ?_ | refine addB_f2 ?_ | refine addB_f1 ?_ | refine addB_f0 ?_); conv => whnf)
  have u := tx_unit t ht
  refine ⟨V3_congr ?_ ?_ ?_, _, rfl⟩
  · rw [lin3 a b c (u 0 (by decide)) (u 3 (by decide)) (u 6 (by decide)) ha hb hc, e0]
  · rw [lin3 a b c (u 1 (by decide)) (u 4 (by decide)) (u 7 (by decide)) ha hb hc, e1]
  · rw [lin3 a b c (u 2 (by decide)) (u 5 (by decide)) (u 8 (by decide)) ha hb hc, e2]
/-- The middle of a cell. -/
def mq (n : Int) (f : Nat) (i j : Int) (k : Nat) : Int := n * fc f k + (2 * i + 1 - n) * fc f (3 + k) + (2 * j + 1 - n) * fc f (6 + k)
theorem midP_mq (n i j : Int) (f : Nat) (hf : f < 6) : midP n i j f = V3 (mq n f i j 0) (mq n f i j 1) (mq n f i j 2) := by
  obtain rfl | rfl | rfl | rfl | rfl | rfl : f = 0 ∨ f = 1 ∨ f = 2 ∨ f = 3 ∨ f = 4 ∨ f = 5 := by omega
  · exact V3_congr (by show _ = n * (1) + (2 * i + 1 - n) * (0) + (2 * j + 1 - n) * (0); omega) (by show _ = n * (0) + (2 * i + 1 - n) * (1) + (2 * j + 1 - n) * (0); omega) (by show _ = n * (0) + (2 * i + 1 - n) * (0) + (2 * j + 1 - n) * (1); omega)
  · exact V3_congr (by show _ = n * (0) + (2 * i + 1 - n) * (-1) + (2 * j + 1 - n) * (0); omega) (by show _ = n * (1) + (2 * i + 1 - n) * (0) + (2 * j + 1 - n) * (0); omega) (by show _ = n * (0) + (2 * i + 1 - n) * (0) + (2 * j + 1 - n) * (1); omega)
  · exact V3_congr (by show _ = n * (-1) + (2 * i + 1 - n) * (0) + (2 * j + 1 - n) * (0); omega) (by show _ = n * (0) + (2 * i + 1 - n) * (-1) + (2 * j + 1 - n) * (0); omega) (by show _ = n * (0) + (2 * i + 1 - n) * (0) + (2 * j + 1 - n) * (1); omega)
  · exact V3_congr (by show _ = n * (0) + (2 * i + 1 - n) * (1) + (2 * j + 1 - n) * (0); omega) (by show _ = n * (-1) + (2 * i + 1 - n) * (0) + (2 * j + 1 - n) * (0); omega) (by show _ = n * (0) + (2 * i + 1 - n) * (0) + (2 * j + 1 - n) * (1); omega)
  · exact V3_congr (by show _ = n * (0) + (2 * i + 1 - n) * (0) + (2 * j + 1 - n) * (-1); omega) (by show _ = n * (0) + (2 * i + 1 - n) * (1) + (2 * j + 1 - n) * (0); omega) (by show _ = n * (1) + (2 * i + 1 - n) * (0) + (2 * j + 1 - n) * (0); omega)
  · exact V3_congr (by show _ = n * (0) + (2 * i + 1 - n) * (0) + (2 * j + 1 - n) * (1); omega) (by show _ = n * (0) + (2 * i + 1 - n) * (1) + (2 * j + 1 - n) * (0); omega) (by show _ = n * (-1) + (2 * i + 1 - n) * (0) + (2 * j + 1 - n) * (0); omega)
theorem mq_bd {n i j : Int} {f k : Nat} (hf : f < 6) (hk : k < 3) (hn : 1 ≤ n ∧ n ≤ 32) (hi : 0 ≤ i ∧ i < n) (hj : 0 ≤ j ∧ j < n) : -200 ≤ mq n f i j k ∧ mq n f i j k ≤ 200 := by
  unfold mq
  have h1 := fc_unit f hf k (by omega)
  have h2 := fc_unit f hf (3 + k) (by omega)
  have h3 := fc_unit f hf (6 + k) (by omega)
  generalize fc f k = a at *
  generalize fc f (3 + k) = b at *
  generalize fc f (6 + k) = c at *
  obtain rfl | rfl | rfl := h1 <;> obtain rfl | rfl | rfl := h2 <;> obtain rfl | rfl | rfl := h3 <;> omega
/-- The turned middle is that of the turned cell. -/
theorem turn_mq {t f n i j : Nat} (ht : t < 24) (hf : f < 6) (hi : i < n) (hj : j < n) {k : Nat} (hk : k < 3) :
    tx t k * mq n f i j 0 + tx t (3 + k) * mq n f i j 1 + tx t (6 + k) * mq n f i j 2 = mq n (fa t f) (rotI n (qu t f) i j) (rotJ n (qu t f) i j) k := by
  have h1 := turn_mid t ht f hf k hk
  have h2 := turn_east t ht f hf k hk
  have h3 := turn_north t ht f hf k hk
  obtain ⟨hg, hq⟩ := fa_lt t ht f hf
  obtain ⟨o0, o1, o2, o3⟩ := ou_fc (fa t f) hg k hk
  unfold mq
  simp only [Nat.add_zero, show 3 + 1 = 4 from rfl, show 3 + 2 = 5 from rfl, show 6 + 1 = 7 from rfl, show 6 + 2 = 8 from rfl]
  generalize fa t f = g at *
  obtain h | h | h | h : qu t f = 0 ∨ qu t f = 1 ∨ qu t f = 2 ∨ qu t f = 3 := by omega
  all_goals
    rw [h] at h2 h3 ⊢
    simp only [rotI, rotJ, if_true, if_false, Nat.reduceEqDiff, Nat.reduceAdd, Nat.reduceMod, reduceIte] at *
  · rw [o0] at h2; rw [o1] at h3
    grind
  · rw [o1] at h2; rw [o2] at h3
    have e : ((n - 1 - j : Nat) : Int) = n - 1 - j := by omega
    rw [e]
    grind
  · rw [o2] at h2; rw [o3] at h3
    have e : ((n - 1 - j : Nat) : Int) = n - 1 - j := by omega
    have e' : ((n - 1 - i : Nat) : Int) = n - 1 - i := by omega
    rw [e, e']
    grind
  · rw [o3] at h2; rw [o0] at h3
    have e' : ((n - 1 - i : Nat) : Int) = n - 1 - i := by omega
    rw [e']
    grind
theorem frame_dot : ∀ f, f < 6 → (fc f 0 * fc f 3 + fc f 1 * fc f 4 + fc f 2 * fc f 5 = 0 ∧ fc f 0 * fc f 6 + fc f 1 * fc f 7 + fc f 2 * fc f 8 = 0 ∧ fc f 3 * fc f 6 + fc f 4 * fc f 7 + fc f 5 * fc f 8 = 0) ∧
    fc f 3 * fc f 3 + fc f 4 * fc f 4 + fc f 5 * fc f 5 = 1 ∧ fc f 6 * fc f 6 + fc f 7 * fc f 7 + fc f 8 * fc f 8 = 1 := by decide +kernel
theorem mq_dot {n i j : Int} {f : Nat} (hf : f < 6) : mq n f i j 0 * fc f 3 + mq n f i j 1 * fc f 4 + mq n f i j 2 * fc f 5 = 2 * i + 1 - n ∧ mq n f i j 0 * fc f 6 + mq n f i j 1 * fc f 7 + mq n f i j 2 * fc f 8 = 2 * j + 1 - n := by
  obtain ⟨⟨h1, h2, h3⟩, h4, h5⟩ := frame_dot f hf
  unfold mq
  simp only [Nat.add_zero, show 3 + 1 = 4 from rfl, show 3 + 2 = 5 from rfl, show 6 + 1 = 7 from rfl, show 6 + 2 = 8 from rfl]
  constructor <;> grind
theorem idx_mid {n : Int} (i : Int) (hi : 0 ≤ i ∧ i < n) : idxI n (2 * i + 1 - n) = i := by
  unfold idxI
  rw [show 2 * i + 1 - n + n - 1 = 2 * i by omega]
  split <;> split <;> omega

theorem getT_cube {k : Nat} (h : k < 54) : getT (rowI cubeL) k = I (cubeL.getD k 0) ∧ ltL k (rowI cubeL) = true := by
  have : ∀ k, k < 54 → ltL k (rowI cubeL) = true := by decide +kernel
  refine ⟨?_, this k h⟩
  have hl : cubeL.length = 54 := rfl
  rw [getT_eq, List.getD_eq_getElem?_getD, rowI, List.getElem?_map, List.getElem?_eq_getElem (by omega), List.getD_eq_getElem?_getD, List.getElem?_eq_getElem (by omega)]
  rfl
theorem cube_br {off f k : Nat} {K : V → Prop} (hf : f < 6) (hk9 : k < 9) (ho : off = f * 9 + k) (hk : K (I (fc f k))) : br (ltL off (rowI cubeL)) (fV (getT (rowI cubeL) off) K) False := by
  subst ho
  obtain ⟨h1, h2⟩ := getT_cube (k := f * 9 + k) (by omega)
  refine br_yes h2 ?_
  rw [h1]; exact hk
theorem cube_m0 {f : Nat} {K : V → Prop} (hf : f < 6) (hk : K (I (fc f 0))) : br (ltL (0 + f * 9 + 0 * 3) (rowI cubeL)) (fV (getT (rowI cubeL) (0 + f * 9 + 0 * 3)) K) False := cube_br hf (by decide) (by omega) hk
theorem cube_m1 {f : Nat} {K : V → Prop} (hf : f < 6) (hk : K (I (fc f 1))) : br (ltL (0 + f * 9 + 0 * 3 + 1) (rowI cubeL)) (fV (getT (rowI cubeL) (0 + f * 9 + 0 * 3 + 1)) K) False := cube_br hf (by decide) (by omega) hk
theorem cube_m2 {f : Nat} {K : V → Prop} (hf : f < 6) (hk : K (I (fc f 2))) : br (ltL (0 + f * 9 + 0 * 3 + 1 + 1) (rowI cubeL)) (fV (getT (rowI cubeL) (0 + f * 9 + 0 * 3 + 1 + 1)) K) False := cube_br hf (by decide) (by omega) hk
theorem cube_f0 {f : Nat} {K : V → Prop} (hf : f < 6) (hk : K (I (fc f 0))) : br (ltL (0 + f * 9) (rowI cubeL)) (fV (getT (rowI cubeL) (0 + f * 9)) K) False := cube_br hf (by decide) (by omega) hk
theorem cube_f1 {f : Nat} {K : V → Prop} (hf : f < 6) (hk : K (I (fc f 1))) : br (ltL (0 + f * 9 + 1) (rowI cubeL)) (fV (getT (rowI cubeL) (0 + f * 9 + 1)) K) False := cube_br hf (by decide) (by omega) hk
theorem cube_f2 {f : Nat} {K : V → Prop} (hf : f < 6) (hk : K (I (fc f 2))) : br (ltL (0 + f * 9 + 1 + 1) (rowI cubeL)) (fV (getT (rowI cubeL) (0 + f * 9 + 1 + 1)) K) False := cube_br hf (by decide) (by omega) hk
theorem cube_f3 {f : Nat} {K : V → Prop} (hf : f < 6) (hk : K (I (fc f 3))) : br (ltL (0 + f * 9 + 1 + 1 + 1) (rowI cubeL)) (fV (getT (rowI cubeL) (0 + f * 9 + 1 + 1 + 1)) K) False := cube_br hf (by decide) (by omega) hk
theorem cube_f4 {f : Nat} {K : V → Prop} (hf : f < 6) (hk : K (I (fc f 4))) : br (ltL (0 + f * 9 + 1 + 1 + 1 + 1) (rowI cubeL)) (fV (getT (rowI cubeL) (0 + f * 9 + 1 + 1 + 1 + 1)) K) False := cube_br hf (by decide) (by omega) hk
theorem cube_f5 {f : Nat} {K : V → Prop} (hf : f < 6) (hk : K (I (fc f 5))) : br (ltL (0 + f * 9 + 1 + 1 + 1 + 1 + 1) (rowI cubeL)) (fV (getT (rowI cubeL) (0 + f * 9 + 1 + 1 + 1 + 1 + 1)) K) False := cube_br hf (by decide) (by omega) hk
theorem cube_f6 {f : Nat} {K : V → Prop} (hf : f < 6) (hk : K (I (fc f 6))) : br (ltL (0 + f * 9 + 1 + 1 + 1 + 1 + 1 + 1) (rowI cubeL)) (fV (getT (rowI cubeL) (0 + f * 9 + 1 + 1 + 1 + 1 + 1 + 1)) K) False := cube_br hf (by decide) (by omega) hk
theorem cube_f7 {f : Nat} {K : V → Prop} (hf : f < 6) (hk : K (I (fc f 7))) : br (ltL (0 + f * 9 + 1 + 1 + 1 + 1 + 1 + 1 + 1) (rowI cubeL)) (fV (getT (rowI cubeL) (0 + f * 9 + 1 + 1 + 1 + 1 + 1 + 1 + 1)) K) False := cube_br hf (by decide) (by omega) hk
theorem cube_f8 {f : Nat} {K : V → Prop} (hf : f < 6) (hk : K (I (fc f 8))) : br (ltL (0 + f * 9 + 1 + 1 + 1 + 1 + 1 + 1 + 1 + 1) (rowI cubeL)) (fV (getT (rowI cubeL) (0 + f * 9 + 1 + 1 + 1 + 1 + 1 + 1 + 1 + 1)) K) False := cube_br hf (by decide) (by omega) hk
theorem tri_yes (a b c : Int) : (a == a && (b == b && (c == c && true))) = true := by simp
theorem tri_no {a b c d e f : Int} (h : ¬ (a = d ∧ b = e ∧ c = f)) : (a == d && (b == e && (c == f && true))) = false := by
  rw [Bool.eq_false_iff]
  intro h'
  simp only [Bool.and_eq_true, beq_iff_eq, and_true] at h'
  exact h h'
theorem ou_ne' : ∀ g, g < 6 → ∀ s, s < 4 → ∀ q, q < 4 → (s = q ∨ ¬ (ou g s 0 = ou g q 0 ∧ ou g s 1 = ou g q 1 ∧ ou g s 2 = ou g q 2)) := by decide +kernel
theorem ou_ne (g : Nat) (hg : g < 6) (s : Nat) (hs : s < 4) (q : Nat) (hq : q < 4) (h : s ≠ q) : ¬ (ou g s 0 = ou g q 0 ∧ ou g s 1 = ou g q 1 ∧ ou g s 2 = ou g q 2) := (ou_ne' g hg s hs q hq).resolve_left h
theorem face_mid : ∀ f, f < 6 → face3 (fc f 0) (fc f 1) (fc f 2) = some f := by decide +kernel
set_option maxHeartbeats 0 in
theorem turn_walk (n f i j t : Nat) (hn : 1 ≤ n) (hn' : n ≤ 32) (hf : f < 6) (hi : i < n) (hj : j < n) (ht : t < 24) (x : List Blk) :
    COk Tryz.prog 3 36 [I n, I t, I (cellN n f i j)] (GG x) (.tup [I (cellN n (fa t f) (rotI n (qu t f) i j) (rotJ n (qu t f) i j)), I (qu t f)]) (GG x) := by
  refine lift ?_ rfl x
  refine COk_quiet Tryz.f36 Tryz.func36 (by kernel_rfl) rfl ?_
  obtain ⟨hg, hq⟩ := fa_lt t ht f hf
  have u := fc_unit f hf
  have ub : ∀ k, k < 9 → -200 ≤ fc f k ∧ fc f k ≤ 200 := fun k hk => by
    rcases u k hk with h | h | h <;> rw [h] <;> decide
  have hT1 := turned_ok t ht (ub 0 (by decide)) (ub 1 (by decide)) (ub 2 (by decide)) (turn_mid t ht f hf 0 (by decide)) (turn_mid t ht f hf 1 (by decide)) (turn_mid t ht f hf 2 (by decide))
  have hn0 : (1 : Int) ≤ n ∧ (n : Int) ≤ 32 := ⟨by omega, by omega⟩
  have hi0 : (0 : Int) ≤ i ∧ (i : Int) < n := ⟨by omega, by omega⟩
  have hj0 : (0 : Int) ≤ j ∧ (j : Int) < n := ⟨by omega, by omega⟩
  have hT2 := turned_ok t ht (mq_bd hf (k := 0) (by decide) hn0 hi0 hj0) (mq_bd hf (k := 1) (by decide) hn0 hi0 hj0) (mq_bd hf (k := 2) (by decide) hn0 hi0 hj0) (turn_mq ht hf hi hj (k := 0) (by decide)) (turn_mq ht hf hi hj (k := 1) (by decide)) (turn_mq ht hf hi hj (k := 2) (by decide))
  have hT3 := turned_ok t ht (ub 3 (by decide)) (ub 4 (by decide)) (ub 5 (by decide)) (turn_east t ht f hf 0 (by decide)) (turn_east t ht f hf 1 (by decide)) (turn_east t ht f hf 2 (by decide))
  have hmid := fun x => middle_ok f n i j hf (by omega) (by omega) (by omega) x
  rw [midP_mq n i j f hf] at hmid
  have hface := fun x => face3_ok (fc (fa t f) 0) (fc (fa t f) 1) (fc (fa t f) 2) (fa t f) (face_mid _ hg) x
  have hri : rotI n (qu t f) i j < n ∧ rotJ n (qu t f) i j < n := by
    unfold rotI rotJ
    constructor <;> (repeat' split) <;> omega
  obtain ⟨d1, d2⟩ := mq_dot (n := n) (i := rotI n (qu t f) i j) (j := rotJ n (qu t f) i j) hg
  generalize rotI n (qu t f) i j = i' at *
  generalize rotJ n (qu t f) i j = j' at *
  generalize fa t f = g at *
  generalize hqq : qu t f = q at *
  have uu := fc_unit g hg
  have hi0' : (0 : Int) ≤ i' ∧ (i' : Int) < n := ⟨by omega, by omega⟩
  have hj0' : (0 : Int) ≤ j' ∧ (j' : Int) < n := ⟨by omega, by omega⟩
  have bq := fun k hk => mq_bd (f := g) hg (k := k) hk hn0 hi0' hj0'
  have x1 : dotI (mq n g i' j' 0) (mq n g i' j' 1) (mq n g i' j' 2) (fc g 3) (fc g 4) (fc g 5) = 2 * i' + 1 - n := by
    rw [dot_lin _ _ _ _ _ _ (bq 0 (by decide)) (bq 1 (by decide)) (bq 2 (by decide)) (uu 3 (by decide)) (uu 4 (by decide)) (uu 5 (by decide)), d1]
  have x2 : dotI (mq n g i' j' 0) (mq n g i' j' 1) (mq n g i' j' 2) (fc g 6) (fc g 7) (fc g 8) = 2 * j' + 1 - n := by
    rw [dot_lin _ _ _ _ _ _ (bq 0 (by decide)) (bq 1 (by decide)) (bq 2 (by decide)) (uu 6 (by decide)) (uu 7 (by decide)) (uu 8 (by decide)), d2]
  have hD1 := fun x => dot_ok (mq n g i' j' 0) (mq n g i' j' 1) (mq n g i' j' 2) (fc g 3) (fc g 4) (fc g 5) x
  have hD2 := fun x => dot_ok (mq n g i' j' 0) (mq n g i' j' 1) (mq n g i' j' 2) (fc g 6) (fc g 7) (fc g 8) x
  rw [x1] at hD1
  rw [x2] at hD2
  have hI1 := fun m => index_ok n (2 * i' + 1 - n) hn0 (by omega) m
  have hI2 := fun m => index_ok n (2 * j' + 1 - n) hn0 (by omega) m
  rw [idx_mid _ hi0'] at hI1
  rw [idx_mid _ hj0'] at hI2
  have hC := fun m => cell_in n g i' j' hn hn' hg hri.1 hri.2 m
  (conv => whnf); repeat ((first | refine ⟨_, _, place_in n f i j hn hn' hf hi hj _, ?_⟩ | refine ⟨_, place_in n f i j hn hn' hf hi hj _, ?_⟩ | refine ⟨_, _, axes_ok t ht _, ?_⟩ | refine ⟨_, axes_ok t ht _, ?_⟩ | refine ⟨_, _, hT1 _, ?_⟩ | refine ⟨_, hT1 _, ?_⟩ | refine ⟨_, _, hface _, ?_⟩ | refine ⟨_, hface _, ?_⟩ | refine cube_m0 hf ?_ | refine cube_m1 hf ?_ | refine cube_m2 hf ?_ | refine cube_f0 hf ?_ | refine cube_f1 hf ?_ | refine cube_f2 hf ?_ | refine cube_f3 hf ?_ | refine cube_f4 hf ?_ | refine cube_f5 hf ?_ | refine cube_f6 hf ?_ | refine cube_f7 hf ?_ | refine cube_f8 hf ?_ | refine cube_f0 hg ?_ | refine cube_f1 hg ?_ | refine cube_f2 hg ?_ | refine cube_f3 hg ?_ | refine cube_f4 hg ?_ | refine cube_f5 hg ?_ | refine cube_f6 hg ?_ | refine cube_f7 hg ?_ | refine cube_f8 hg ?_ | refine ⟨_, _, hmid _, ?_⟩ | refine ⟨_, hmid _, ?_⟩ | refine ⟨_, _, hT2 _, ?_⟩ | refine ⟨_, hT2 _, ?_⟩ | refine ⟨_, _, hD1 _, ?_⟩ | refine ⟨_, hD1 _, ?_⟩ | refine ⟨_, _, hD2 _, ?_⟩ | refine ⟨_, hD2 _, ?_⟩ | refine ⟨_, _, hI1 _, ?_⟩ | refine ⟨_, hI1 _, ?_⟩ | refine ⟨_, _, hI2 _, ?_⟩ | refine ⟨_, hI2 _, ?_⟩ | refine ⟨_, _, hC _, ?_⟩ | refine ⟨_, hC _, ?_⟩ | refine ⟨_, _, out0_ok _ _ _ _ _ _ _ _ _ _, ?_⟩ | refine ⟨_, out0_ok _ _ _ _ _ _ _ _ _ _, ?_⟩ | refine ⟨_, _, hT3 _, ?_⟩ | refine ⟨_, hT3 _, ?_⟩ | refine br_d (by omega) ?_ | refine br_nd (by omega) ?_ | refine br_eq (by omega) ?_ | refine br_neq (by omega) ?_ | refine br_ne (by omega) ?_ | refine br_no (bo_eqn (by omega)) ?_ | refine Or.inl ?_ | refine okS_no (by kernel_rfl) ?_ | refine okS_yes (by kernel_rfl) ?_ | refine And_of (by (conv => whnf); (rw [getB_app0]); (conv => whnf)) ?_ | refine setB_app ?_ | refine setB_app0 ?_ | rw [getB_app] | rw [getB_app0] | refine addB_f13 ?_ | refine addB_f12 ?_ | refine addB_f11 ?_ | refine addB_f10 ?_ | refine addB_f9 ?_ | refine addB_f8 ?_ | refine addB_f7 ?_ | refine addB_f6 ?_ | refine addB_f5 ?_ | refine addB_f4 ?_ | refine addB_f3 ?_ | refine addB_f2 ?_ | refine addB_f1 ?_ | refine addB_f0 ?_); conv => whnf)
  have hO := fun s hs x => out_ok g s hg hs x
  have w1 : W3 (frL g) = fcV g := by
    obtain rfl | rfl | rfl | rfl | rfl | rfl : g = 0 ∨ g = 1 ∨ g = 2 ∨ g = 3 ∨ g = 4 ∨ g = 5 := by omega
    all_goals rfl
  have w2 : ∀ s, s < 4 → W3 (outL g s) = V3 (ou g s 0) (ou g s 1) (ou g s 2) := by
    intro s hs
    obtain rfl | rfl | rfl | rfl | rfl | rfl : g = 0 ∨ g = 1 ∨ g = 2 ∨ g = 3 ∨ g = 4 ∨ g = 5 := by omega
    all_goals
      obtain rfl | rfl | rfl | rfl : s = 0 ∨ s = 1 ∨ s = 2 ∨ s = 3 := by omega
      all_goals rfl
  have hO0 := hO 0 (by decide)
  have hO1 := hO 1 (by decide)
  have hO2 := hO 2 (by decide)
  have hO3 := hO 3 (by decide)
  rw [w1, w2 0 (by decide)] at hO0
  rw [w1, w2 1 (by decide)] at hO1
  rw [w1, w2 2 (by decide)] at hO2
  rw [w1, w2 3 (by decide)] at hO3
  have hne := ou_ne g hg
  have n01 := hne 0 (by decide) 1 (by decide) (by decide)
  have n02 := hne 0 (by decide) 2 (by decide) (by decide)
  have n03 := hne 0 (by decide) 3 (by decide) (by decide)
  have n12 := hne 1 (by decide) 2 (by decide) (by decide)
  have n13 := hne 1 (by decide) 3 (by decide) (by decide)
  have n23 := hne 2 (by decide) 3 (by decide) (by decide)
  obtain rfl | rfl | rfl | rfl : q = 0 ∨ q = 1 ∨ q = 2 ∨ q = 3 := by omega
  all_goals
    repeat (first | (refine br_yes (tri_yes _ _ _) ?_; conv => whnf) | (refine br_no (tri_no (by assumption)) ?_; conv => whnf) | (refine lr ?_; conv => whnf) | (refine ⟨_, hO0 _, ?_⟩; conv => whnf) | (refine ⟨_, hO1 _, ?_⟩; conv => whnf) | (refine ⟨_, hO2 _, ?_⟩; conv => whnf) | (refine ⟨_, hO3 _, ?_⟩; conv => whnf))
    exact ⟨rfl, _, rfl⟩
end Go.Proofs.YtgoljofmbidkfaaGreatDoor
/- Turns of a net, in plain numbers: cells beside one another stay so. No condition. -/
namespace Go.Proofs.YtgoljofmbidkfaaGreatDoor
open Go Go.Eng
set_option maxRecDepth 100000
set_option linter.unusedSimpArgs false
set_option linter.unusedVariables false

/-- Does a turn by q sides turn about what runs along side s? -/
def flq (s q : Nat) : Bool := if q = 0 then false else if q = 1 then s % 2 == 0 else if q = 2 then true else s % 2 == 1
theorem four {s : Nat} (h : s < 4) : s = 0 ∨ s = 1 ∨ s = 2 ∨ s = 3 := by omega
theorem al_rot {n i j s q : Nat} (hi : i < n) (hj : j < n) (hs : s < 4) (hq : q < 4) : alongS (rotI n q i j) (rotJ n q i j) ((s + q) % 4) = flipK n (alongS i j s) (flq s q) := by
  obtain rfl | rfl | rfl | rfl := four hs <;> obtain rfl | rfl | rfl | rfl := four hq <;> rfl
theorem put_rot {n k b q : Nat} (hk : k < n) (hb : b < 4) (hq : q < 4) : (rotI n q (putS n k b).1 (putS n k b).2, rotJ n q (putS n k b).1 (putS n k b).2) = putS n (flipK n k (flq b q)) ((b + q) % 4) := by
  obtain rfl | rfl | rfl | rfl := four hb <;> obtain rfl | rfl | rfl | rfl := four hq <;> (refine Prod.ext ?_ ?_ <;> simp only [rotI, rotJ, putS, flipK, flq, if_true, if_false, Nat.reduceEqDiff, Nat.reduceAdd, Nat.reduceMod, reduceIte, Nat.reduceBEq, beq_self_eq_true] <;> omega)
theorem flip_two {n k : Nat} (hk : k < n) (a b : Bool) : flipK n (flipK n k a) b = flipK n k (a ^^ b) := by
  cases a <;> cases b <;> simp [flipK] <;> omega
theorem turn_nbT : ∀ t, t < 24 → ∀ f, f < 6 → ∀ s, s < 4 → nbT (fa t f) ((s + qu t f) % 4) = (fa t (nbT f s).1, ((nbT f s).2.1 + qu t (nbT f s).1) % 4, ((nbT f s).2.2 ^^ flq s (qu t f)) ^^ flq (nbT f s).2.1 (qu t (nbT f s).1)) := by decide +kernel
theorem nbT_bd : ∀ f, f < 6 → ∀ s, s < 4 → (nbT f s).1 < 6 ∧ (nbT f s).2.1 < 4 := by decide
theorem atE_rot {n i j s q : Nat} (hi : i < n) (hj : j < n) (hs : s < 4) (hq : q < 4) : atE n (rotI n q i j) (rotJ n q i j) ((s + q) % 4) ↔ atE n i j s := by
  obtain rfl | rfl | rfl | rfl := four hs <;> obtain rfl | rfl | rfl | rfl := four hq <;>
    (simp only [atE, rotI, rotJ, if_true, if_false, Nat.reduceEqDiff, Nat.reduceAdd, Nat.reduceMod, reduceIte] <;> omega)
theorem nb_in {n f i j s : Nat} (hi : i < n) (hj : j < n) (hs : s < 4) (h : ¬ atE n i j s) : nb n f i j s = (f, (if s = 0 then i + 1 else if s = 2 then i - 1 else i), (if s = 1 then j + 1 else if s = 3 then j - 1 else j), (s + 2) % 4) := by
  obtain rfl | rfl | rfl | rfl := four hs
  · have h : ¬ i + 1 = n := h
    show (if i + 1 < n then _ else _) = _
    rw [if_pos (by omega)]; rfl
  · have h : ¬ j + 1 = n := h
    show (if j + 1 < n then _ else _) = _
    rw [if_pos (by omega)]; rfl
  · have h : ¬ i = 0 := h
    show (if 0 < i then _ else _) = _
    rw [if_pos (by omega)]; rfl
  · have h : ¬ j = 0 := h
    show (if 0 < j then _ else _) = _
    rw [if_pos (by omega)]; rfl
theorem rot_lt {n q i j : Nat} (hi : i < n) (hj : j < n) : rotI n q i j < n ∧ rotJ n q i j < n := by
  unfold rotI rotJ
  constructor <;> (repeat' split) <;> omega
/-- Where a turn takes a side of a cell. -/
def tuS (n t : Nat) (x : Nat × Nat × Nat × Nat) : Nat × Nat × Nat × Nat := (fa t x.1, rotI n (qu t x.1) x.2.1 x.2.2.1, rotJ n (qu t x.1) x.2.1 x.2.2.1, (x.2.2.2 + qu t x.1) % 4)
theorem nb_turn {n t f i j s : Nat} (ht : t < 24) (hf : f < 6) (hi : i < n) (hj : j < n) (hs : s < 4) :
    nb n (fa t f) (rotI n (qu t f) i j) (rotJ n (qu t f) i j) ((s + qu t f) % 4) = tuS n t (nb n f i j s) := by
  obtain ⟨hg, hq⟩ := fa_lt t ht f hf
  have hs' : (s + qu t f) % 4 < 4 := Nat.mod_lt _ (by decide)
  obtain ⟨r1, r2⟩ := rot_lt (q := qu t f) hi hj
  by_cases h : atE n i j s
  · rw [nb_at ((atE_rot hi hj hs hq).2 h) hs', nb_at h hs]
    obtain ⟨b1, b2⟩ := nbT_bd f hf s hs
    obtain ⟨_, b3⟩ := fa_lt t ht _ b1
    have ha : alongS i j s < n := by unfold alongS; split <;> assumption
    have hfl : flipK n (alongS i j s) (nbT f s).2.2 < n := by unfold flipK; split <;> omega
    have hp := put_rot hfl b2 b3
    unfold nbE tuS
    rw [turn_nbT t ht f hf s hs, al_rot hi hj hs hq]
    simp only
    rw [flip_two ha]
    rw [flip_two ha] at hp
    rw [show (flq s (qu t f) ^^ (((nbT f s).2.2 ^^ flq s (qu t f)) ^^ flq (nbT f s).2.1 (qu t (nbT f s).1))) = ((nbT f s).2.2 ^^ flq (nbT f s).2.1 (qu t (nbT f s).1)) by
      generalize (nbT f s).2.2 = a
      generalize flq s (qu t f) = b
      generalize flq (nbT f s).2.1 (qu t (nbT f s).1) = c
      cases a <;> cases b <;> cases c <;> rfl]
    rw [← hp]
  · have h' : ¬ atE n (rotI n (qu t f) i j) (rotJ n (qu t f) i j) ((s + qu t f) % 4) := fun k => h ((atE_rot hi hj hs hq).1 k)
    rw [nb_in r1 r2 hs' h', nb_in hi hj hs h]
    unfold tuS
    simp only
    generalize qu t f = q at *
    obtain rfl | rfl | rfl | rfl := four hs <;> obtain rfl | rfl | rfl | rfl := four hq <;>
      (simp only [atE] at h
       refine Prod.ext rfl (Prod.ext ?_ (Prod.ext ?_ rfl)) <;>
        simp only [rotI, rotJ, if_true, if_false, Nat.reduceEqDiff, Nat.reduceAdd, Nat.reduceMod, reduceIte] <;> omega)
end Go.Proofs.YtgoljofmbidkfaaGreatDoor
/- Cells behind a turn, by their numbers. No condition. -/
namespace Go.Proofs.YtgoljofmbidkfaaGreatDoor
open Go Go.Eng
set_option maxRecDepth 100000
set_option linter.unusedSimpArgs false
set_option linter.unusedVariables false

def tC (n t c : Nat) : Nat := cellN n (fa t (c / (n * n))) (rotI n (qu t (c / (n * n))) (c % n) (c / n % n)) (rotJ n (qu t (c / (n * n))) (c % n) (c / n % n))
def tQ (n t c : Nat) : Nat := qu t (c / (n * n))
theorem fa_inj : ∀ t, t < 24 → ∀ f, f < 6 → ∀ g, g < 6 → fa t f = fa t g → f = g := by decide +kernel
section
variable {n t c : Nat} (hn : 1 ≤ n) (ht : t < 24) (hc : c < 6 * (n * n))
include hn ht hc
omit ht in
theorem tC_parts : tC n t c / (n * n) = fa t (c / (n * n)) ∧ tC n t c % n = rotI n (qu t (c / (n * n))) (c % n) (c / n % n) ∧ tC n t c / n % n = rotJ n (qu t (c / (n * n))) (c % n) (c / n % n) := by
  obtain ⟨_, a2, a3, a4⟩ := cell_parts hn hc
  obtain ⟨r1, r2⟩ := rot_lt (q := qu t (c / (n * n))) a3 a4
  exact cellN_parts r1 r2
theorem tC_lt : tC n t c < 6 * (n * n) ∧ tQ n t c < 4 := by
  obtain ⟨_, a2, a3, a4⟩ := cell_parts hn hc
  obtain ⟨hg, hq⟩ := fa_lt t ht _ a2
  obtain ⟨r1, r2⟩ := rot_lt (q := qu t (c / (n * n))) a3 a4
  exact ⟨cellN_lt hg r1 r2, hq⟩
theorem tC_nb {s : Nat} (hs : s < 4) : nbC n (tC n t c) ((s + tQ n t c) % 4) = (tC n t (nbC n c s).1, ((nbC n c s).2 + tQ n t (nbC n c s).1) % 4) := by
  obtain ⟨_, a2, a3, a4⟩ := cell_parts hn hc
  obtain ⟨u1, u2, u3⟩ := tC_parts hn hc
  have hnb := nb_turn (n := n) (t := t) ht a2 a3 a4 hs
  obtain ⟨k1, k2, k3, k4⟩ := nb_lt (s := s) a2 a3 a4
  unfold nbC tQ
  rw [u1, u2, u3, hnb]
  generalize nb n (c / (n * n)) (c % n) (c / n % n) s = x at *
  obtain ⟨p1, p2, p3⟩ := cellN_parts (f := x.1) k2 k3
  show (cellN n (fa t x.1) (rotI n (qu t x.1) x.2.1 x.2.2.1) (rotJ n (qu t x.1) x.2.1 x.2.2.1), (x.2.2.2 + qu t x.1) % 4) = (tC n t (cellN n x.1 x.2.1 x.2.2.1), (x.2.2.2 + qu t (cellN n x.1 x.2.1 x.2.2.1 / (n * n))) % 4)
  unfold tC
  rw [p1, p2, p3]
theorem tC_inj {d : Nat} (hd : d < 6 * (n * n)) (h : tC n t c = tC n t d) : c = d := by
  obtain ⟨e1, a2, a3, a4⟩ := cell_parts hn hc
  obtain ⟨e2, b2, b3, b4⟩ := cell_parts hn hd
  obtain ⟨u1, u2, u3⟩ := tC_parts hn hc
  obtain ⟨v1, v2, v3⟩ := tC_parts hn hd
  rw [h] at u1 u2 u3
  have hf := fa_inj t ht _ a2 _ b2 (u1.symm.trans v1)
  rw [hf] at u2 u3
  have hi := u2.symm.trans v2
  have hj := u3.symm.trans v3
  have key : c % n = d % n ∧ c / n % n = d / n % n := by
    generalize qu t (d / (n * n)) = q at *
    generalize c % n = i at *
    generalize c / n % n = j at *
    generalize d % n = i' at *
    generalize d / n % n = j' at *
    unfold rotI at hi
    unfold rotJ at hj
    split at hi
    · rename_i h0; subst h0; simp at hj; omega
    · split at hi
      · rename_i h0; subst h0; simp at hj; omega
      · split at hi
        · rename_i h0; subst h0; simp at hj; omega
        · rename_i h0 h1 h2; rw [if_neg h0, if_neg h1, if_neg h2, if_neg h0, if_neg h1, if_neg h2] at hj; omega
  rw [e1, e2, hf, key.1, key.2]
end
/-! ### A list that is turned -/
def tl {α : Type} (z : α) (n t : Nat) (v : Nat → α) : Nat → List α
  | 0 => List.replicate (6 * (n * n)) z
  | k + 1 => (tl z n t v k).set (tC n t k) (v k)
theorem tl_len {α : Type} (z : α) (n t : Nat) (v : Nat → α) : ∀ k, (tl z n t v k).length = 6 * (n * n)
  | 0 => List.length_replicate
  | k + 1 => by rw [tl, List.length_set, tl_len z n t v k]
theorem tl_get {α : Type} {z : α} {n t : Nat} {v : Nat → α} (hn : 1 ≤ n) (ht : t < 24) : ∀ k, k ≤ 6 * (n * n) → ∀ c, c < k → (tl z n t v k).getD (tC n t c) z = v c
  | 0, _, c, h => absurd h (Nat.not_lt_zero c)
  | k + 1, hk, c, h => by
    have l1 := tl_len z n t v k
    have l2 := (tC_lt hn ht (show k < 6 * (n * n) by omega)).1
    rw [tl, List.getD_eq_getElem?_getD, List.getElem?_set]
    by_cases e : tC n t k = tC n t c
    · have := tC_inj hn ht (show k < 6 * (n * n) by omega) (show c < 6 * (n * n) by omega) e
      subst this
      rw [if_pos rfl, if_pos (by omega)]; rfl
    · rw [if_neg e, ← List.getD_eq_getElem?_getD]
      have : c ≠ k := fun h => e (by rw [h])
      exact tl_get hn ht k (by omega) c (by omega)
end Go.Proofs.YtgoljofmbidkfaaGreatDoor
/- Turned nets in plain numbers: cells, edges, two turns at once. No condition. -/
namespace Go.Proofs.YtgoljofmbidkfaaGreatDoor
open Go Go.Eng
set_option maxRecDepth 100000
set_option linter.unusedSimpArgs false
set_option linter.unusedVariables false

/-- One turn behind another; the turn back. -/
def aftT : List (List Nat) := [[0, 1, 2, 3, 4, 5, 6, 7, 8, 9, 10, 11, 12, 13, 14, 15, 16, 17, 18, 19, 20, 21, 22, 23],
  [1, 0, 3, 2, 12, 13, 15, 14, 9, 8, 11, 10, 4, 5, 7, 6, 20, 23, 22, 21, 16, 19, 18, 17],
  [2, 3, 1, 0, 16, 18, 19, 17, 10, 11, 9, 8, 20, 22, 23, 21, 12, 14, 13, 15, 4, 6, 5, 7],
  [3, 2, 0, 1, 20, 22, 21, 23, 11, 10, 8, 9, 16, 18, 17, 19, 4, 7, 5, 6, 12, 15, 13, 14],
  [4, 5, 7, 6, 0, 1, 3, 2, 12, 13, 15, 14, 8, 9, 11, 10, 21, 20, 23, 22, 17, 16, 19, 18],
  [5, 4, 6, 7, 8, 9, 10, 11, 13, 12, 14, 15, 0, 1, 2, 3, 17, 18, 19, 16, 21, 22, 23, 20],
  [6, 7, 4, 5, 17, 19, 16, 18, 14, 15, 12, 13, 21, 23, 20, 22, 0, 2, 1, 3, 8, 10, 9, 11],
  [7, 6, 5, 4, 21, 23, 22, 20, 15, 14, 13, 12, 17, 19, 18, 16, 8, 11, 9, 10, 0, 3, 1, 2],
  [8, 9, 11, 10, 5, 4, 7, 6, 0, 1, 3, 2, 13, 12, 15, 14, 22, 21, 20, 23, 18, 17, 16, 19],
  [9, 8, 10, 11, 13, 12, 14, 15, 1, 0, 2, 3, 5, 4, 6, 7, 18, 19, 16, 17, 22, 23, 20, 21],
  [10, 11, 8, 9, 18, 16, 17, 19, 2, 3, 0, 1, 22, 20, 21, 23, 5, 6, 4, 7, 13, 14, 12, 15],
  [11, 10, 9, 8, 22, 20, 23, 21, 3, 2, 1, 0, 18, 16, 19, 17, 13, 15, 12, 14, 5, 7, 4, 6],
  [12, 13, 14, 15, 1, 0, 2, 3, 4, 5, 6, 7, 9, 8, 10, 11, 19, 16, 17, 18, 23, 20, 21, 22],
  [13, 12, 15, 14, 9, 8, 11, 10, 5, 4, 7, 6, 1, 0, 3, 2, 23, 22, 21, 20, 19, 18, 17, 16],
  [14, 15, 13, 12, 19, 17, 18, 16, 6, 7, 5, 4, 23, 21, 22, 20, 9, 10, 8, 11, 1, 2, 0, 3],
  [15, 14, 12, 13, 23, 21, 20, 22, 7, 6, 4, 5, 19, 17, 16, 18, 1, 3, 0, 2, 9, 11, 8, 10],
  [16, 18, 17, 19, 2, 3, 0, 1, 20, 22, 21, 23, 10, 11, 8, 9, 6, 4, 7, 5, 14, 12, 15, 13],
  [17, 19, 18, 16, 6, 7, 5, 4, 21, 23, 22, 20, 14, 15, 13, 12, 10, 8, 11, 9, 2, 0, 3, 1],
  [18, 16, 19, 17, 10, 11, 9, 8, 22, 20, 23, 21, 2, 3, 1, 0, 14, 13, 15, 12, 6, 5, 7, 4],
  [19, 17, 16, 18, 14, 15, 12, 13, 23, 21, 20, 22, 6, 7, 4, 5, 2, 1, 3, 0, 10, 9, 11, 8],
  [20, 22, 23, 21, 3, 2, 1, 0, 16, 18, 19, 17, 11, 10, 9, 8, 15, 12, 14, 13, 7, 4, 6, 5],
  [21, 23, 20, 22, 7, 6, 4, 5, 17, 19, 16, 18, 15, 14, 12, 13, 3, 0, 2, 1, 11, 8, 10, 9],
  [22, 20, 21, 23, 11, 10, 8, 9, 18, 16, 17, 19, 3, 2, 0, 1, 7, 5, 6, 4, 15, 13, 14, 12],
  [23, 21, 22, 20, 15, 14, 13, 12, 19, 17, 18, 16, 7, 6, 5, 4, 11, 9, 10, 8, 3, 1, 2, 0]]
def invT : List Nat := [0, 1, 3, 2, 4, 12, 16, 20, 8, 9, 10, 11, 5, 13, 22, 18, 6, 21, 15, 19, 7, 17, 14, 23]
def aft (u t : Nat) : Nat := (aftT.getD u []).getD t 0
def inv (t : Nat) : Nat := invT.getD t 0
theorem aft_ok : ∀ u, u < 24 → ∀ t, t < 24 → aft u t < 24 ∧ ∀ f, f < 6 → fa u (fa t f) = fa (aft u t) f ∧ (qu t f + qu u (fa t f)) % 4 = qu (aft u t) f := by decide +kernel
theorem aft_lt {u t : Nat} (hu : u < 24) (ht : t < 24) : aft u t < 24 := (aft_ok u hu t ht).1
theorem aft_0 : ∀ t, t < 24 → aft t 0 = t := by decide +kernel
theorem inv_ok : ∀ t, t < 24 → inv t < 24 ∧ aft (inv t) t = 0 ∧ aft t (inv t) = 0 := by decide +kernel
theorem fa_0 : ∀ f, f < 6 → fa 0 f = f ∧ qu 0 f = 0 := by decide +kernel
theorem rot_two {n q r i j : Nat} (hi : i < n) (hj : j < n) (hq : q < 4) (hr : r < 4) : rotI n r (rotI n q i j) (rotJ n q i j) = rotI n ((q + r) % 4) i j ∧ rotJ n r (rotI n q i j) (rotJ n q i j) = rotJ n ((q + r) % 4) i j := by
  obtain rfl | rfl | rfl | rfl := four hq <;> obtain rfl | rfl | rfl | rfl := four hr <;> (constructor <;> simp only [rotI, rotJ, if_true, if_false, Nat.reduceEqDiff, Nat.reduceAdd, Nat.reduceMod, reduceIte] <;> omega)
section
variable {n t u c : Nat} (hn : 1 ≤ n) (hu : u < 24) (ht : t < 24) (hc : c < 6 * (n * n))
include hn hu ht hc
theorem tC_two : tC n u (tC n t c) = tC n (aft u t) c ∧ (tQ n t c + tQ n u (tC n t c)) % 4 = tQ n (aft u t) c := by
  obtain ⟨_, a2, a3, a4⟩ := cell_parts hn hc
  obtain ⟨u1, u2, u3⟩ := tC_parts (t := t) hn hc
  obtain ⟨hg, hq⟩ := fa_lt t ht _ a2
  obtain ⟨_, hq'⟩ := fa_lt u hu _ hg
  obtain ⟨e1, e2⟩ := (aft_ok u hu t ht).2 _ a2
  obtain ⟨r1, r2⟩ := rot_two a3 a4 hq hq'
  refine ⟨?_, by unfold tQ; rw [u1, e2]⟩
  have e0 : ∀ X, tC n u X = cellN n (fa u (X / (n * n))) (rotI n (qu u (X / (n * n))) (X % n) (X / n % n)) (rotJ n (qu u (X / (n * n))) (X % n) (X / n % n)) := fun _ => rfl
  rw [e0 (tC n t c), u1, u2, u3, r1, r2, e1, e2]
  rfl
end
theorem tC_0 {n c : Nat} (hn : 1 ≤ n) (hc : c < 6 * (n * n)) : tC n 0 c = c ∧ tQ n 0 c = 0 := by
  obtain ⟨a1, a2, a3, a4⟩ := cell_parts hn hc
  obtain ⟨e1, e2⟩ := fa_0 _ a2
  unfold tC tQ
  rw [e1, e2]
  exact ⟨a1.symm, rfl⟩
theorem tC_inv {n t c : Nat} (hn : 1 ≤ n) (ht : t < 24) (hc : c < 6 * (n * n)) : tC n t (tC n (inv t) c) = c ∧ tC n (inv t) (tC n t c) = c := by
  obtain ⟨i1, i2, i3⟩ := inv_ok t ht
  rw [(tC_two hn ht i1 hc).1, (tC_two hn i1 ht hc).1, i2, i3]
  exact ⟨(tC_0 hn hc).1, (tC_0 hn hc).1⟩

/-! ### Numbers of edges -/
def nu (n c s : Nat) : Nat := ((numF n c s).getD 0).toNat
/-- Is a cell the left of the edge over its side? -/
def fw (n c s : Nat) : Bool := decide (c < (nbC n c s).1)
section
variable {n : Nat} (hn : 1 ≤ n)
include hn
theorem nu_at {c s : Nat} (hc : c < 6 * (n * n)) (hs : s < 4) : numF n c s = some ((nu n c s : Nat) : Int) ∧ ∃ x, (edges n)[nu n c s]? = some x ∧
    ((fw n c s = true ∧ x = (c, s, (nbC n c s).1, (nbC n c s).2)) ∨ (fw n c s = false ∧ x = ((nbC n c s).1, (nbC n c s).2, c, s))) := by
  obtain ⟨e, x, h1, h2, h3⟩ := num_at hn hc hs
  have e1 : nu n c s = e := by unfold nu; rw [h1]; rfl
  rw [e1]
  refine ⟨h1, x, h2, ?_⟩
  unfold fw
  rcases h3 with ⟨h3, h4⟩ | ⟨h3, h4⟩
  · exact .inl ⟨decide_eq_true h4, h3⟩
  · exact .inr ⟨decide_eq_false (by omega), h3⟩
theorem nu_left {k : Nat} {x : Ed} (hx : (edges n)[k]? = some x) : nu n x.1 x.2.1 = k ∧ nu n x.2.2.1 x.2.2.2 = k ∧ fw n x.1 x.2.1 = true := by
  obtain ⟨h1, h2⟩ := num_left hn hx
  obtain ⟨_, _, c12, _, _, hnb, _⟩ := edge_of hn hx
  unfold nu
  rw [h1, h2]
  refine ⟨rfl, rfl, ?_⟩
  unfold fw
  rw [hnb]
  exact decide_eq_true c12
theorem nu_lt {c s : Nat} (hc : c < 6 * (n * n)) (hs : s < 4) : nu n c s < (edges n).length := by
  obtain ⟨_, x, h, _⟩ := nu_at hn hc hs
  exact (List.getElem?_eq_some_iff.1 h).1
theorem nu_nb {c s : Nat} (hc : c < 6 * (n * n)) (hs : s < 4) : nu n (nbC n c s).1 (nbC n c s).2 = nu n c s := by
  obtain ⟨_, x, h, h2⟩ := nu_at hn hc hs
  obtain ⟨l1, l2, _⟩ := nu_left hn h
  rcases h2 with ⟨_, rfl⟩ | ⟨_, rfl⟩
  · exact l2
  · exact l1
theorem fw_nb {c s : Nat} (hc : c < 6 * (n * n)) (hs : s < 4) : fw n (nbC n c s).1 (nbC n c s).2 = !fw n c s := by
  have hb := nbC_back hn hc hs
  have hne := (nbC_ne hn hc hs).1
  unfold fw
  rw [hb]
  by_cases h : c < (nbC n c s).1
  · rw [decide_eq_true h, decide_eq_false (by simp only; omega)]; rfl
  · rw [decide_eq_false h, decide_eq_true (by simp only; omega)]; rfl
end
/-- The edge that an edge becomes; does it lie the other way about? -/
def tE (n t e : Nat) : Nat := match (edges n)[e]? with
  | some x => nu n (tC n t x.1) ((x.2.1 + tQ n t x.1) % 4)
  | none => 0
def tR (n t e : Nat) : Bool := match (edges n)[e]? with
  | some x => !fw n (tC n t x.1) ((x.2.1 + tQ n t x.1) % 4)
  | none => false
section
variable {n t : Nat} (hn : 1 ≤ n) (ht : t < 24)
include hn ht
/-- The edge over a side of a cell becomes the one over the turned side of the turned cell. -/
theorem tE_nu {c s : Nat} (hc : c < 6 * (n * n)) (hs : s < 4) : tE n t (nu n c s) = nu n (tC n t c) ((s + tQ n t c) % 4) ∧ (tR n t (nu n c s) ^^ !fw n c s) = !fw n (tC n t c) ((s + tQ n t c) % 4) := by
  obtain ⟨_, x, h, h2⟩ := nu_at hn hc hs
  have hm : (s + tQ n t c) % 4 < 4 := Nat.mod_lt _ (by decide)
  have hl := (tC_lt hn ht hc).1
  have e1 := tC_nb hn ht hc hs
  unfold tE tR
  rw [h]
  rcases h2 with ⟨f, rfl⟩ | ⟨f, rfl⟩
  · rw [f]
    exact ⟨rfl, by simp⟩
  · rw [f]
    simp only
    have hn1 := nu_nb hn hl hm
    have hn2 := fw_nb hn hl hm
    rw [e1] at hn1 hn2
    simp only at hn1 hn2
    rw [hn1, hn2]
    exact ⟨rfl, by simp⟩
theorem tE_lt {e : Nat} (he : e < (edges n).length) : tE n t e < (edges n).length := by
  have hx := List.getElem?_eq_getElem he
  generalize (edges n)[e] = x at hx
  obtain ⟨c1, s1, _⟩ := edge_of hn hx
  unfold tE
  rw [hx]
  exact nu_lt hn (tC_lt hn ht c1).1 (Nat.mod_lt _ (by decide))
end
theorem tE_two {n t u e : Nat} (hn : 1 ≤ n) (hu : u < 24) (ht : t < 24) (he : e < (edges n).length) : tE n u (tE n t e) = tE n (aft u t) e ∧ (tR n t e ^^ tR n u (tE n t e)) = tR n (aft u t) e := by
  have hx := List.getElem?_eq_getElem he
  generalize (edges n)[e] = x at hx
  obtain ⟨c1, s1, _⟩ := edge_of hn hx
  obtain ⟨l1, _, l3⟩ := nu_left hn hx
  obtain ⟨q1, q2⟩ := tC_two hn hu ht c1
  have hl := (tC_lt hn ht c1).1
  have hm : (x.2.1 + tQ n t x.1) % 4 < 4 := Nat.mod_lt _ (by decide)
  obtain ⟨a1, a2⟩ := tE_nu hn ht c1 s1
  obtain ⟨b1, b2⟩ := tE_nu hn hu hl hm
  obtain ⟨d1, d2⟩ := tE_nu hn (aft_lt hu ht) c1 s1
  have em : ((x.2.1 + tQ n t x.1) % 4 + tQ n u (tC n t x.1)) % 4 = (x.2.1 + tQ n (aft u t) x.1) % 4 := by rw [← q2]; omega
  rw [q1, em] at b1 b2
  rw [l1] at a1 a2 d1 d2
  rw [l3] at a2 d2
  rw [a1, d1, b1]
  refine ⟨rfl, ?_⟩
  revert a2 b2 d2
  cases tR n t e <;> cases tR n (aft u t) e <;> cases tR n u (nu n (tC n t x.1) ((x.2.1 + tQ n t x.1) % 4)) <;> cases fw n (tC n t x.1) ((x.2.1 + tQ n t x.1) % 4) <;> cases fw n (tC n (aft u t) x.1) ((x.2.1 + tQ n (aft u t) x.1) % 4) <;> simp
theorem tE_0 {n e : Nat} (hn : 1 ≤ n) (he : e < (edges n).length) : tE n 0 e = e ∧ tR n 0 e = false := by
  have hx := List.getElem?_eq_getElem he
  generalize (edges n)[e] = x at hx
  obtain ⟨c1, s1, _⟩ := edge_of hn hx
  obtain ⟨l1, _, l3⟩ := nu_left hn hx
  obtain ⟨q1, q2⟩ := tC_0 hn c1
  unfold tE tR
  rw [hx]
  simp only
  rw [q1, q2, Nat.add_zero, Nat.mod_eq_of_lt s1, l1, l3]
  exact ⟨rfl, rfl⟩
theorem tE_inv {n t e : Nat} (hn : 1 ≤ n) (ht : t < 24) (he : e < (edges n).length) : tE n t (tE n (inv t) e) = e ∧ tE n (inv t) (tE n t e) = e := by
  obtain ⟨i1, i2, i3⟩ := inv_ok t ht
  rw [(tE_two hn ht i1 he).1, (tE_two hn i1 ht he).1, i2, i3]
  exact ⟨(tE_0 hn he).1, (tE_0 hn he).1⟩
/-! ### Lists that are put elsewhere, number by number -/
/-- Behind k of them: what went by 'to' stands at its place, elsewhere what was there. -/
def movT {α : Type} (N : Nat) (bk : Nat → Nat) (v z : Nat → α) (k : Nat) : List α := tab N fun j => if bk j < k then v (bk j) else z j
theorem mov_0 {α : Type} (N : Nat) (bk : Nat → Nat) (v z : Nat → α) : movT N bk v z 0 = tab N z := tab_congr fun i _ => if_neg (Nat.not_lt_zero _)
theorem mov_set {α : Type} {N k : Nat} {to bk : Nat → Nat} (v z : Nat → α) (hb : ∀ j, j < N → to (bk j) = j) (h : bk (to k) = k) : (movT N bk v z k).set (to k) (v k) = movT N bk v z (k + 1) := by
  unfold movT
  rw [tab_set]
  refine tab_congr fun j hj => ?_
  by_cases e : j = to k
  · subst e
    rw [if_pos rfl, if_pos (by omega), h]
  · rw [if_neg e]
    have : bk j ≠ k := fun h' => e (by rw [← h', hb j hj])
    by_cases hl : bk j < k
    · rw [if_pos hl, if_pos (by omega)]
    · rw [if_neg hl, if_neg (by omega)]
theorem mov_end {α : Type} {N : Nat} {bk : Nat → Nat} (v z : Nat → α) (hb : ∀ j, j < N → bk j < N) : movT N bk v z N = tab N fun j => v (bk j) := tab_congr fun j hj => if_pos (hb j hj)
end Go.Proofs.YtgoljofmbidkfaaGreatDoor
/- Depths and levels; the lesser and the greater of two floats; contracts with weaker arguments. No condition. -/
namespace Go.Proofs.YtgoljofmbidkfaaGreatDoor
open Go Go.Eng
set_option maxRecDepth 100000
set_option linter.unusedSimpArgs false
set_option linter.unusedVariables false

abbrev nI (i : Int) : Nat := FloatKind.nearest .f64 i
theorem fromint_ok (i : Int) (m : List Blk) : COk Tryz.prog 3 106 [I i] m (F (nI i)) m := by
  refine COk_quiet Tryz.f106 Tryz.func106 (by kernel_rfl) rfl ?_
  (conv => whnf); repeat ((first | refine br_d (by omega) ?_ | refine br_nd (by omega) ?_ | refine br_eq (by omega) ?_ | refine br_neq (by omega) ?_ | refine br_ne (by omega) ?_ | refine br_no (bo_eqn (by omega)) ?_ | refine Or.inl ?_ | refine okS_no (by kernel_rfl) ?_ | refine okS_yes (by kernel_rfl) ?_ | refine And_of (by (conv => whnf); (rw [getB_app0]); (conv => whnf)) ?_ | refine setB_app ?_ | refine setB_app0 ?_ | rw [getB_app] | rw [getB_app0] | refine addB_f13 ?_ | refine addB_f12 ?_ | refine addB_f11 ?_ | refine addB_f10 ?_ | refine addB_f9 ?_ | refine addB_f8 ?_ | refine addB_f7 ?_ | refine addB_f6 ?_ | refine addB_f5 ?_ | refine addB_f4 ?_ | refine addB_f3 ?_ | refine addB_f2 ?_ | refine addB_f1 ?_ | refine addB_f0 ?_); conv => whnf)
  exact ⟨rfl, [], by simp⟩
/-- How deep a water stands over an area. -/
def depthF (w a : Int) : Option Nat := if w < 1 ∨ a < 1 then some 0 else fdiv (some (nI w)) (some (nI a))
/-- Bed and depth. -/
def levelF (b : Nat) (w a : Int) : Nat := canonF (fadd (some b) (depthF w a))
/-- The lesser of two. -/
def minO (x y : Option Nat) : Nat := match x, y with
  | some a, some b => if fne (some a) (some a) = true ∨ fne (some b) (some b) = true then qn else if orderW a b > 0 then b else a
  | _, _ => qn
def maxO (x y : Option Nat) : Nat := match x, y with
  | some a, some b => if fne (some a) (some a) = true ∨ fne (some b) (some b) = true then qn else if orderW a b < 0 then b else a
  | _, _ => qn
/-! ### Magnitudes -/
def absO (o : Option Nat) : Option Nat := o.map absB
/-! ### Tables that are filled -/
section
variable {α : Type}
def preT (k : Nat) (G : Nat → α) (z : α) (c : Nat) : α := if c < k then G c else z
end
theorem put_at {M l : List Blk} {k : Nat} {c c' : Blk} {K : List Blk → Prop} (e : c = c') (h : K (M ++ l.set k c')) : setB (M ++ l) (M.length + k) c K := setB_app (by rw [e]; exact h)
theorem put_at0 {M l : List Blk} {c c' : Blk} {K : List Blk → Prop} (e : c = c') (h : K (M ++ l.set 0 c')) : setB (M ++ l) M.length c K := setB_app0 (by rw [e]; exact h)
theorem blkI {L L' : List Int} (h : L = L') : (⟨true, .ints .i64 L⟩ : Blk) = ⟨true, .ints .i64 L'⟩ := by rw [h]
theorem blkF {L L' : List Nat} (h : L = L') : (⟨true, .flts L⟩ : Blk) = ⟨true, .flts L'⟩ := by rw [h]
end Go.Proofs.YtgoljofmbidkfaaGreatDoor
