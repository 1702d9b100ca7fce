/- Tables of numbers by place; sums in two words; slices that are read; memory that grows, kept shut. No condition. -/
import Derived.Test.YtgoljofmbidkfaaGreatDoorV
import Derived.Test.YtgoljofmbidkfaaGreatDoorJ
namespace Go.Proofs.YtgoljofmbidkfaaGreatDoor
open Go Go.Eng
set_option maxRecDepth 100000
set_option linter.unusedSimpArgs false
set_option linter.unusedVariables false

/-- A list by its places. -/
def tab {α : Type} (n : Nat) (G : Nat → α) : List α := (List.range n).map G
section
variable {α : Type}
theorem tab_len (n : Nat) (G : Nat → α) : (tab n G).length = n := by simp [tab]
theorem tab_get? (n : Nat) (G : Nat → α) (i : Nat) : (tab n G)[i]? = if i < n then some (G i) else none := by
  unfold tab
  rw [List.getElem?_map]
  by_cases h : i < n
  · rw [if_pos h, List.getElem?_range h]; rfl
  · rw [if_neg h, List.getElem?_eq_none (by simpa using h)]; rfl
theorem tab_get {n : Nat} {G : Nat → α} {i : Nat} {d : α} (h : i < n) : (tab n G).getD i d = G i := by
  rw [List.getD_eq_getElem?_getD, tab_get?, if_pos h]; rfl
theorem tab_congr {n : Nat} {F G : Nat → α} (h : ∀ i, i < n → F i = G i) : tab n F = tab n G := by
  apply List.ext_getElem?
  intro i
  rw [tab_get?, tab_get?]
  by_cases hi : i < n
  · rw [if_pos hi, if_pos hi, h i hi]
  · rw [if_neg hi, if_neg hi]
theorem tab_set (n : Nat) (G : Nat → α) (i : Nat) (v : α) : (tab n G).set i v = tab n fun j => if j = i then v else G j := by
  apply List.ext_getElem?
  intro j
  rw [List.getElem?_set, tab_get?, tab_get?, tab_len]
  by_cases h : i = j
  · subst h
    rw [if_pos rfl]
    by_cases hi : i < n
    · rw [if_pos hi, if_pos hi, if_pos rfl]
    · rw [if_neg hi, if_neg hi]
  · rw [if_neg h]
    by_cases hi : j < n
    · rw [if_pos hi, if_pos hi, if_neg (fun e => h e.symm)]
    · rw [if_neg hi, if_neg hi]
theorem tab_rep (n : Nat) (v : α) : List.replicate n v = tab n fun _ => v := by
  apply List.ext_getElem?
  intro i
  rw [tab_get?, List.getElem?_replicate]
theorem tab_list (l : List α) (d : α) : l = tab l.length fun i => l.getD i d := by
  apply List.ext_getElem?
  intro i
  rw [tab_get?]
  by_cases h : i < l.length
  · rw [if_pos h, List.getD_eq_getElem?_getD, List.getElem?_eq_getElem h]; rfl
  · rw [if_neg h, List.getElem?_eq_none (by omega)]
theorem tab_eq_iff {n : Nat} {F G : Nat → α} : tab n F = tab n G ↔ ∀ i, i < n → F i = G i := by
  refine ⟨fun h i hi => ?_, tab_congr⟩
  have := congrArg (·[i]?) h
  simp only [tab_get?, if_pos hi] at this
  exact Option.some.inj this
theorem tab_succ (n : Nat) (G : Nat → α) : tab (n + 1) G = tab n G ++ [G n] := by
  simp [tab, List.range_succ]
theorem tab_take {n k : Nat} (G : Nat → α) (h : k ≤ n) : (tab n G).take k = tab k G := by
  apply List.ext_getElem?
  intro i
  rw [List.getElem?_take, tab_get?, tab_get?]
  by_cases hi : i < k
  · rw [if_pos hi, if_pos hi, if_pos (by omega)]
  · rw [if_neg hi, if_neg hi]
end

/-! ### A whole number in two words of 64 bits -/
def hiZ (z : Int) : Int := z / 18446744073709551616 % 18446744073709551616
def loZ (z : Int) : Int := z % 18446744073709551616
theorem hiZ_bd (z : Int) : 0 ≤ hiZ z ∧ hiZ z < 18446744073709551616 := by unfold hiZ; omega
theorem loZ_bd (z : Int) : 0 ≤ loZ z ∧ loZ z < 18446744073709551616 := by unfold loZ; omega
theorem wrapU_mod (n : Int) : IntKind.u64.wrap n = n % 18446744073709551616 := by
  unfold IntKind.wrap
  rfl
theorem wrapI_mod (n : Int) : IntKind.i64.wrap n = if n % 18446744073709551616 < 9223372036854775808 then n % 18446744073709551616 else n % 18446744073709551616 - 18446744073709551616 := by
  have key : IntKind.i64.wrap n = if (true && decide (n % 2 ^ 64 ≥ (2 ^ 63 : Int))) = true then n % 2 ^ 64 - 2 ^ 64 else n % 2 ^ 64 := rfl
  rw [key]
  simp only [Bool.true_and, decide_eq_true_eq]
  split <;> split <;> omega
theorem neg_cases {x : Int} (h : -9223372036854775808 ≤ x ∧ x < 9223372036854775808) : (0 ≤ x ∧ x / 9223372036854775808 % 18446744073709551616 = 0 ∧ x % 18446744073709551616 = x) ∨
    (x < 0 ∧ x / 9223372036854775808 % 18446744073709551616 = 18446744073709551615 ∧ x % 18446744073709551616 = x + 18446744073709551616) := by omega
theorem add_hi {z x : Int} (h : -9223372036854775808 ≤ x ∧ x < 9223372036854775808) : (hiZ z + IntKind.u64.wrap (x / 9223372036854775808) + (loZ z + IntKind.u64.wrap x) / 18446744073709551616) % 18446744073709551616 = hiZ (z + x) := by
  rw [wrapU_mod, wrapU_mod]
  unfold hiZ loZ
  obtain ⟨q, r, rfl, hr⟩ : ∃ q r : Int, z = 18446744073709551616 * q + r ∧ 0 ≤ r ∧ r < 18446744073709551616 := ⟨z / 18446744073709551616, z % 18446744073709551616, by omega, by omega⟩
  have e1 : (18446744073709551616 * q + r) / 18446744073709551616 = q := by omega
  have e2 : (18446744073709551616 * q + r) % 18446744073709551616 = r := by omega
  rw [e1, e2]
  rcases neg_cases h with ⟨h0, h1, h2⟩ | ⟨h0, h1, h2⟩
  · rw [h1, h2]
    by_cases hc : r + x < 18446744073709551616
    · rw [show (r + x) / 18446744073709551616 = 0 by omega, show (18446744073709551616 * q + r + x) / 18446744073709551616 = q by omega]; omega
    · rw [show (r + x) / 18446744073709551616 = 1 by omega, show (18446744073709551616 * q + r + x) / 18446744073709551616 = q + 1 by omega]; omega
  · rw [h1, h2]
    by_cases hc : r + x < 0
    · rw [show (r + (x + 18446744073709551616)) / 18446744073709551616 = 0 by omega, show (18446744073709551616 * q + r + x) / 18446744073709551616 = q - 1 by omega]; omega
    · rw [show (r + (x + 18446744073709551616)) / 18446744073709551616 = 1 by omega, show (18446744073709551616 * q + r + x) / 18446744073709551616 = q by omega]; omega
theorem add_lo (z x : Int) : (loZ z + IntKind.u64.wrap x) % 18446744073709551616 = loZ (z + x) := by
  rw [wrapU_mod]
  unfold loZ
  omega
theorem sub_hi {z x : Int} (h : -9223372036854775808 ≤ x ∧ x < 9223372036854775808) : (hiZ z + 18446744073709551616 - IntKind.u64.wrap (x / 9223372036854775808) - (if loZ z < IntKind.u64.wrap x then 1 else 0)) % 18446744073709551616 = hiZ (z - x) := by
  rw [wrapU_mod, wrapU_mod]
  unfold hiZ loZ
  obtain ⟨q, r, rfl, hr⟩ : ∃ q r : Int, z = 18446744073709551616 * q + r ∧ 0 ≤ r ∧ r < 18446744073709551616 := ⟨z / 18446744073709551616, z % 18446744073709551616, by omega, by omega⟩
  have e1 : (18446744073709551616 * q + r) / 18446744073709551616 = q := by omega
  have e2 : (18446744073709551616 * q + r) % 18446744073709551616 = r := by omega
  rw [e1, e2]
  rcases neg_cases h with ⟨h0, h1, h2⟩ | ⟨h0, h1, h2⟩
  · rw [h1, h2]
    by_cases hc : r < x
    · rw [if_pos hc, show (18446744073709551616 * q + r - x) / 18446744073709551616 = q - 1 by omega]; omega
    · rw [if_neg hc, show (18446744073709551616 * q + r - x) / 18446744073709551616 = q by omega]; omega
  · rw [h1, h2]
    by_cases hc : r < x + 18446744073709551616
    · rw [if_pos hc, show (18446744073709551616 * q + r - x) / 18446744073709551616 = q by omega]; omega
    · rw [if_neg hc, show (18446744073709551616 * q + r - x) / 18446744073709551616 = q + 1 by omega]; omega
theorem sub_lo (z x : Int) : (loZ z + 18446744073709551616 - IntKind.u64.wrap x) % 18446744073709551616 = loZ (z - x) := by
  rw [wrapU_mod]
  unfold loZ
  omega
theorem narrow_val {z : Int} (h : -9223372036854775808 ≤ z ∧ z < 9223372036854775808) : IntKind.i64.wrap (loZ z) = z := by
  rw [wrapI_mod]
  unfold loZ
  split <;> omega
theorem narrow_ok {z : Int} (h : -170141183460469231731687303715884105728 ≤ z ∧ z < 170141183460469231731687303715884105728) :
    (hiZ z = IntKind.u64.wrap (IntKind.i64.wrap (loZ z) / 9223372036854775808)) ↔ (-9223372036854775808 ≤ z ∧ z < 9223372036854775808) := by
  rw [wrapI_mod, wrapU_mod]
  unfold hiZ loZ
  split <;> omega

abbrev in64 (x : Int) : Prop := -9223372036854775808 ≤ x ∧ x < 9223372036854775808
/-- The numbers l lie in block j, from cell o on. -/
structure SlI (M : List Blk) (j o : Nat) (l : List Int) : Prop where
  rd : ∀ i, i < l.length → ∀ K : V → Prop, K (.int .i64 (l.getD i 0)) → rd1 (getB M j).b (o + i) K
  live : (getB M j).b.live = true
  wf : ∀ i, i < l.length → in64 (l.getD i 0)
  short : l.length < 4611686018427387904
theorem SlI.app {M : List Blk} {j o : Nat} {l : List Int} (h : SlI M j o l) (x : List Blk) : SlI (M ++ x) j o l := by
  have e : getB (M ++ x) j = getB M j := getB_in rfl h.live
  exact ⟨by rw [e]; exact h.rd, by rw [e]; exact h.live, h.wf, h.short⟩
theorem SlI.lt {M : List Blk} {j o : Nat} {l : List Int} (h : SlI M j o l) : j < M.length := getB_lt rfl h.live
theorem SlI.at {M : List Blk} {j o : Nat} {l : List Int} (h : SlI M j o l) {i off : Nat} {K : V → Prop} (hi : i < l.length) (ho : off = o + i * 1) (hk : K (.int .i64 (l.getD i 0))) : rd1 (getB M j).b off K := by
  rw [Nat.mul_one] at ho; subst ho; exact h.rd i hi K hk
/-- A block of plain numbers. -/
theorem SlI.ints {M : List Blk} {j o : Nat} {w : Bool} {L l : List Int} (h : getB M j = ⟨w, .ints .i64 L⟩) (hl : ∀ i, i < l.length → o + i < L.length ∧ L.getD (o + i) 0 = l.getD i 0) (hw : ∀ i, i < l.length → in64 (l.getD i 0)) (hs : l.length < 4611686018427387904) : SlI M j o l :=
  ⟨fun i hi K hk => by
    rw [h]
    obtain ⟨h1, h2⟩ := hl i hi
    refine br_yes (by simpa using h1) ?_
    rw [h2]; exact hk, by rw [h]; rfl, hw, hs⟩
/-- A slice of numbers, or none. -/
def Sli (M : List Blk) (v : V) (l : List Int) : Prop := (v = .raw (.slice none 0 0) ∧ l = []) ∨ ∃ j o, v = .sl j o l.length ∧ SlI M j o l
theorem Sli.app {M : List Blk} {v : V} {l : List Int} (h : Sli M v l) (x : List Blk) : Sli (M ++ x) v l := by
  rcases h with h | ⟨j, o, h1, h2⟩
  · exact .inl h
  · exact .inr ⟨j, o, h1, h2.app x⟩
theorem Sli.wf {M : List Blk} {v : V} {l : List Int} (h : Sli M v l) : (∀ i, i < l.length → in64 (l.getD i 0)) ∧ l.length < 4611686018427387904 := by
  rcases h with ⟨_, rfl⟩ | ⟨j, o, _, h⟩
  · exact ⟨fun i hi => absurd hi (Nat.not_lt_zero i), by decide⟩
  · exact ⟨h.wf, h.short⟩
theorem wrapKL {k : Nat} (h : k < 4611686018427387904) : V.int .i64 (IntKind.i64.wrap ((k : Int) + 1)) = I ((k + 1 : Nat) : Int) := by
  rw [wrap_id (by omega) (by omega)]; rfl
/-- The sum of the first k. -/
def ps (l : List Int) : Nat → Int
  | 0 => 0
  | k + 1 => ps l k + l.getD k 0
theorem ps_bd {l : List Int} (h : ∀ i, i < l.length → in64 (l.getD i 0)) : ∀ k, k ≤ l.length → -(9223372036854775808 * (k : Int)) ≤ ps l k ∧ ps l k ≤ 9223372036854775808 * (k : Int)
  | 0, _ => by simp [ps]
  | k + 1, hk => by
    have := ps_bd h k (by omega)
    have := h k (by omega)
    simp only [ps]
    omega
/-- The sum of the first k, from z on. -/
def pz (l : List Int) (z : Int) : Nat → Int
  | 0 => z
  | k + 1 => pz l z k + l.getD k 0
theorem pz_ps (l : List Int) (z : Int) : ∀ k, pz l z k = z + ps l k
  | 0 => by simp [pz, ps]
  | k + 1 => by simp only [pz, ps, pz_ps l z k]; omega
abbrev nilS' : V := .raw (.slice none 0 0)

/-- M' is M and more. -/
structure Up (M M' : List Blk) : Prop where
  ex : ∃ x, M' = M ++ x
  sc : scM M'.length M' = true
theorem Up.of {M x : List Blk} (hsc : scM M.length M = true) (hx : scM (M ++ x).length x = true) : Up M (M ++ x) :=
  ⟨⟨x, rfl⟩, scM_app (scM_mono (by simp) _ hsc) hx⟩
theorem Up.trans {A B C : List Blk} (h : Up A B) (k : Up B C) : Up A C := by
  obtain ⟨⟨x, rfl⟩, _⟩ := h
  obtain ⟨⟨y, rfl⟩, k⟩ := k
  exact ⟨⟨x ++ y, by rw [List.append_assoc]⟩, k⟩
theorem Up.len {M M' : List Blk} (h : Up M M') : M.length ≤ M'.length := by
  obtain ⟨x, rfl⟩ := h.ex; simp
theorem Up.app {M M' : List Blk} (h : Up M M') (x : List Blk) : ∃ y, M' ++ x = M ++ y := by
  obtain ⟨y, rfl⟩ := h.ex; exact ⟨y ++ x, by rw [List.append_assoc]⟩
theorem SlI.up {M M' : List Blk} {j o : Nat} {l : List Int} (h : SlI M j o l) (u : Up M M') : SlI M' j o l := by
  obtain ⟨x, rfl⟩ := u.ex; exact h.app x
theorem Sli.up {M M' : List Blk} {v : V} {l : List Int} (h : Sli M v l) (u : Up M M') : Sli M' v l := by
  obtain ⟨x, rfl⟩ := u.ex; exact h.app x
theorem Net.up {M M' : List Blk} {b n : Nat} (h : Net M b n) (u : Up M M') : Net M' b n := by
  obtain ⟨x, rfl⟩ := u.ex; exact h.more x
theorem Top.up {M M' : List Blk} (h : Top M) (u : Up M M') : Top M' := by
  obtain ⟨x, rfl⟩ := u.ex; exact h.app x
theorem Top.ng {M : List Blk} (h : Top M) : 3 ≤ M.length := by
  obtain ⟨x, rfl⟩ := h; simp
theorem new_up {M : List Blk} (hm : Top M) (hsc : scM M.length M = true) (n : Nat) (hn : 1 ≤ n) (hn' : n ≤ 32) : ∃ b M', COk Tryz.prog 3 15 [I n] M (.tup [.ptr (b + 1) 0, I 0]) M' ∧ Net M' b n ∧ Up M M' := by
  obtain ⟨x, rfl⟩ := hm
  obtain ⟨b, M', h1, h2, h3, y, h4⟩ := new_shut_sc n hn hn' x hsc
  exact ⟨b, M', h1, h2, ⟨⟨y, h4⟩, h3⟩⟩
theorem getT_row : ∀ (l : List Int) (i : Nat), i < l.length → getT (rowI l) i = I (l.getD i 0) ∧ ltL i (rowI l) = true
  | [], i, h => absurd h (Nat.not_lt_zero i)
  | a :: l, 0, _ => ⟨rfl, rfl⟩
  | a :: l, i + 1, h => by
    obtain ⟨h1, h2⟩ := getT_row l i (by simpa using h)
    exact ⟨by simpa [rowI, getT] using h1, by simpa [rowI, ltL] using h2⟩
/-- A literal slice. -/
theorem SlI.lit {M : List Blk} {j : Nat} {w : Bool} {l : List Int} (h : getB M j = ⟨w, .cells (rowI l)⟩) (hw : ∀ x ∈ l, in64 x) (hs : l.length < 4611686018427387904) : SlI M j 0 l :=
  ⟨fun i hi K hk => by
    rw [h]
    obtain ⟨h1, h2⟩ := getT_row l i hi
    rw [Nat.zero_add]
    refine br_yes h2 ?_
    rw [h1]
    exact hk, by rw [h]; rfl, fun i hi => by
      rw [List.getD_eq_getElem?_getD, List.getElem?_eq_getElem hi]
      exact hw _ (List.getElem_mem hi), hs⟩
theorem SlI.tab {M : List Blk} {j : Nat} {w : Bool} {N : Nat} {G : Nat → Int} (h : getB M j = ⟨w, .ints .i64 (tab N G)⟩) (hw : ∀ i, i < N → in64 (G i)) (hs : N < 4611686018427387904) : SlI M j 0 (tab N G) :=
  SlI.ints h (fun i hi => ⟨by rw [Nat.zero_add]; exact hi, by rw [Nat.zero_add]⟩) (fun i hi => by
    rw [tab_len] at hi
    rw [tab_get hi]; exact hw i hi) (by rw [tab_len]; exact hs)
theorem Sli.of {M : List Blk} {j o : Nat} {l : List Int} (h : SlI M j o l) : Sli M (.sl j o l.length) l := .inr ⟨j, o, rfl, h⟩
theorem Sli.none (M : List Blk) : Sli M nilS' [] := .inl ⟨rfl, rfl⟩
theorem list_ne {a b : List Int} (h : a.length = b.length) (hne : a ≠ b) : ∃ k, k < a.length ∧ (∀ i, i < k → a.getD i 0 = b.getD i 0) ∧ a.getD k 0 ≠ b.getD k 0 := by
  induction a generalizing b with
  | nil => cases b with
    | nil => exact absurd rfl hne
    | cons y b => simp at h
  | cons x a ih => cases b with
    | nil => simp at h
    | cons y b =>
      by_cases hxy : x = y
      · subst hxy
        obtain ⟨k, h1, h2, h3⟩ := ih (by simpa using h) (fun e => hne (by rw [e]))
        refine ⟨k + 1, by simpa using h1, fun i hi => ?_, by simpa using h3⟩
        cases i with
        | zero => simp
        | succ i => simpa using h2 i (by omega)
      · exact ⟨0, by simp, fun i hi => by omega, by simpa using hxy⟩
end Go.Proofs.YtgoljofmbidkfaaGreatDoor
