/- Depths and levels; the lesser and the greater of two floats; contracts with weaker arguments. No condition. -/
import Derived.Test.YtgoljofmbidkfaaGreatDoorTb
namespace Go.Proofs.YtgoljofmbidkfaaGreatDoor
open Go Go.Eng
set_option maxRecDepth 100000
set_option linter.unusedSimpArgs false
set_option linter.unusedVariables false

/-- A contract whose arguments say less. -/
theorem COk_args {f : FuncId} {args args' : List V} {m m' : List Blk} {r : V} (h : ∀ n g xs, Rvs n g args xs → Rvs n g args' xs) (k : COk Tryz.prog 3 f args' m r m') : COk Tryz.prog 3 f args m r m' :=
  fun g w xs hg hrep ha => k g w xs hg hrep (h _ _ _ ha)
/-- A contract whose answer says less. -/
theorem COk_res {f : FuncId} {args : List V} {m m' : List Blk} {r r' : V} (h : ∀ n g x, Rv n g r x → Rv n g r' x) (k : COk Tryz.prog 3 f args m r m') : COk Tryz.prog 3 f args m r' m' := by
  intro g w xs hg hrep ha
  have := k g w xs hg hrep ha
  revert this
  cases (callFunc f xs.toArray).run Tryz.prog w with
  | ok x w1 =>
    cases x with
    | enter f' ys =>
      intro this
      refine Calls.mono this ?_
      rintro e w' ⟨g', x, h1, h2, h3, h4⟩
      exact ⟨g', x, h1, h _ _ _ h2, h3, h4⟩
    | value x =>
      rintro ⟨g', h2, h3, h4⟩
      exact ⟨g', h _ _ _ h2, h3, h4⟩
    | _ => exact fun h => h.elim
  | _ => exact fun h => h.elim
theorem Rv_any {n : Nat} {g : Nat → Pl} {x : Value} : Rv n g .any x := by simp [Rv]
theorem Rv_sk {n : Nat} {g : Nat → Pl} {i o l c : Nat} {x : Value} (h : Rv n g (.sk i o l c) x) : Rv n g (.sl i o l) x := by
  simp only [Rv] at h ⊢
  obtain ⟨h1, h2, a, h3, h4, h5⟩ := h
  exact ⟨h1, h2, a, c, h3, h4, fun h => h5 (by omega)⟩
theorem Rvs_cons {n : Nat} {g : Nat → Pl} {v v' : V} {vs vs' : List V} (h : ∀ x, Rv n g v x → Rv n g v' x) (k : ∀ xs, Rvs n g vs xs → Rvs n g vs' xs) {xs : List Value} (hx : Rvs n g (v :: vs) xs) : Rvs n g (v' :: vs') xs := by
  obtain ⟨y, ys, rfl, h1, h2⟩ := hx
  exact ⟨y, ys, rfl, h _ h1, k _ h2⟩
theorem Rv_agg {n : Nat} {g : Nat → Pl} {vs vs' : List V} (h : ∀ xs, Rvs n g vs xs → Rvs n g vs' xs) {x : Value} (hx : Rv n g (.agg vs) x) : Rv n g (.agg vs') x := by
  simp only [Rv] at hx ⊢
  obtain ⟨xs, h1, h2⟩ := hx
  exact ⟨xs, h1, h _ h2⟩
theorem Rv_tup {n : Nat} {g : Nat → Pl} {vs vs' : List V} (h : ∀ xs, Rvs n g vs xs → Rvs n g vs' xs) {x : Value} (hx : Rv n g (.tup vs) x) : Rv n g (.tup vs') x := by
  simp only [Rv] at hx ⊢
  obtain ⟨xs, h1, h2⟩ := hx
  exact ⟨xs, h1, h _ h2⟩

abbrev nI (i : Int) : Nat := FloatKind.nearest .f64 i
theorem fromint_ok (i : Int) (m : List Blk) : COk Tryz.prog 3 106 [I i] m (F (nI i)) m := by
  refine COk_quiet Tryz.f106 Tryz.func106 (by kernel_rfl) rfl ?_
  (conv => whnf); repeat ((first | refine br_d (by omega) ?_ | refine br_nd (by omega) ?_ | refine br_eq (by omega) ?_ | refine br_neq (by omega) ?_ | refine br_ne (by omega) ?_ | refine br_no (bo_eqn (by omega)) ?_ | refine Or.inl ?_ | refine okS_no (by kernel_rfl) ?_ | refine okS_yes (by kernel_rfl) ?_ | refine And_of (by (conv => whnf); (rw [getB_app0]); (conv => whnf)) ?_ | refine setB_app ?_ | refine setB_app0 ?_ | rw [getB_app] | rw [getB_app0] | refine addB_f13 ?_ | refine addB_f12 ?_ | refine addB_f11 ?_ | refine addB_f10 ?_ | refine addB_f9 ?_ | refine addB_f8 ?_ | refine addB_f7 ?_ | refine addB_f6 ?_ | refine addB_f5 ?_ | refine addB_f4 ?_ | refine addB_f3 ?_ | refine addB_f2 ?_ | refine addB_f1 ?_ | refine addB_f0 ?_); conv => whnf)
  exact ⟨rfl, [], by simp⟩
/-- How deep a water stands over an area. -/
def depthF (w a : Int) : Option Nat := if w < 1 ∨ a < 1 then some 0 else fdiv (some (nI w)) (some (nI a))
/-- Bed and depth. -/
def levelF (b : Nat) (w a : Int) : Nat := canonF (fadd (some b) (depthF w a))
/-- The lesser of two. -/
def minO (x y : Option Nat) : Nat := match x, y with
  | some a, some b => if fne (some a) (some a) = true ∨ fne (some b) (some b) = true then qn else if orderW a b > 0 then b else a
  | _, _ => qn
def maxO (x y : Option Nat) : Nat := match x, y with
  | some a, some b => if fne (some a) (some a) = true ∨ fne (some b) (some b) = true then qn else if orderW a b < 0 then b else a
  | _, _ => qn
/-! ### Magnitudes -/
theorem absB_mod {b : Nat} (h : b < 18446744073709551616) : absB b = b % 9223372036854775808 := by
  have e : ((BitVec.ofInt 64 (b : Int)) &&& ~~~(BitVec.ofInt 64 9223372036854775808)).toNat = b % 9223372036854775808 := by
    rw [BitVec.toNat_and, show (~~~(BitVec.ofInt 64 9223372036854775808)).toNat = 2 ^ 63 - 1 from rfl, Nat.and_two_pow_sub_one_eq_mod, BitVec.toNat_ofInt]
    omega
  have key : absB b = (IntKind.u64.wrap (((BitVec.ofInt 64 (b : Int)) &&& ~~~(BitVec.ofInt 64 9223372036854775808)).toNat : Int)).toNat := rfl
  rw [key, e, wrapU_mod]
  omega
def absO (o : Option Nat) : Option Nat := o.map absB
theorem abs_okO (o : Option Nat) (m : List Blk) : COk Tryz.prog 3 144 [.fl o] m (.fl (absO o)) m := by
  cases o with
  | some b => exact abs_ok b m
  | none =>
    refine COk_bits [] fun b hb => ?_
    refine COk_res (fun n g x hx => ?_) (abs_ok b m)
    obtain ⟨h1, h2⟩ := hb
    simp only [Rv] at hx ⊢
    obtain ⟨c, rfl, rfl⟩ := hx
    refine ⟨_, ?_, rfl⟩
    have h1 : b < 18446744073709551616 := h1
    have h2 : f64.infRung < b % 9223372036854775808 := h2
    rw [absB_mod h1]
    refine ⟨by show b % 9223372036854775808 < 18446744073709551616; omega, ?_⟩
    show f64.infRung < b % 9223372036854775808 % 9223372036854775808
    rw [Nat.mod_mod]; exact h2
/-! ### Tables that are filled -/
section
variable {α : Type}
def preT (k : Nat) (G : Nat → α) (z : α) (c : Nat) : α := if c < k then G c else z
theorem pre_0 (N : Nat) (G : Nat → α) (z : α) : List.replicate (N * 1) z = tab N (preT 0 G z) := by
  rw [Nat.mul_one, tab_rep]
  exact tab_congr fun i _ => by rw [preT, if_neg (Nat.not_lt_zero i)]
theorem pre_set {N k : Nat} (G : Nat → α) (z : α) : (tab N (preT k G z)).set (0 + k * 1) (G k) = tab N (preT (k + 1) G z) := by
  rw [tab_set]
  refine tab_congr fun c _ => ?_
  unfold preT
  by_cases h1 : c = 0 + k * 1
  · rw [if_pos h1, if_pos (by omega), show k = c by omega]
  · rw [if_neg h1]
    by_cases h2 : c < k
    · rw [if_pos h2, if_pos (by omega)]
    · rw [if_neg h2, if_neg (by omega)]
theorem pre_end (N : Nat) (G : Nat → α) (z : α) : tab N (preT N G z) = tab N G := tab_congr fun c hc => by rw [preT, if_pos hc]
theorem tab_blt {N k : Nat} {G : Nat → α} (h : k < N) : Nat.blt (0 + k * 1) (tab N G).length = true := by simp [tab_len]; omega
end
theorem put_at {M l : List Blk} {k : Nat} {c c' : Blk} {K : List Blk → Prop} (e : c = c') (h : K (M ++ l.set k c')) : setB (M ++ l) (M.length + k) c K := setB_app (by rw [e]; exact h)
theorem put_at0 {M l : List Blk} {c c' : Blk} {K : List Blk → Prop} (e : c = c') (h : K (M ++ l.set 0 c')) : setB (M ++ l) M.length c K := setB_app0 (by rw [e]; exact h)
theorem blkI {L L' : List Int} (h : L = L') : (⟨true, .ints .i64 L⟩ : Blk) = ⟨true, .ints .i64 L'⟩ := by rw [h]
theorem blkF {L L' : List Nat} (h : L = L') : (⟨true, .flts L⟩ : Blk) = ⟨true, .flts L'⟩ := by rw [h]
end Go.Proofs.YtgoljofmbidkfaaGreatDoor
