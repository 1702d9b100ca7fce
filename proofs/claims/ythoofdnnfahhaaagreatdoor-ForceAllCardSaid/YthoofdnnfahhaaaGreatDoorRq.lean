/- Questions to the reference's net, and to none; what the program's net answers where nothing is. No condition. -/
import Derived.Test.YthoofdnnfahhaaaGreatDoorRn
import Derived.Test.YthoofdnnfahhaaaGreatDoorRg
namespace Go.Proofs.YthoofdnnfahhaaaGreatDoor
open Go Go.Eng
set_option maxRecDepth 100000
set_option linter.unusedSimpArgs false
set_option linter.unusedVariables false

/-- A contract at the globals with more, in memory of that form. -/
theorem topM {M : List Blk} (hm : Top M) {f : FuncId} {args : List V} {r : V} (h : ∀ x, COk Tryz.prog 3 f args (GG x) r (GG x)) : ∀ z, COk Tryz.prog 3 f args (M ++ z) r (M ++ z) := fun z => by
  obtain ⟨x, rfl⟩ := hm
  exact h (x ++ z)
/-! ### Nothing is known of what is not there -/
def Inside (n : Nat) (f : Int → Int → Option Int) : Prop := ∀ a t : Int, f a t ≠ none → (0 ≤ a ∧ a < ((6 * (n * n) : Nat) : Int)) ∧ 0 ≤ t ∧ t < 4
theorem inside_stp {n c s : Nat} (hn : 1 ≤ n) (hc : c < 6 * (n * n)) (hs : s < 4) {q : St} (h : Inside n q.f) : Inside n (stp n c s q).f := by
  obtain ⟨h1, h2⟩ := nbC_lt (s := s) hn hc
  unfold stp
  split
  · exact h
  · intro a t hat
    simp only [updM] at hat
    split at hat
    · rename_i hx; omega
    · split at hat
      · rename_i hx; omega
      · exact h a t hat
theorem inside_stps {n c : Nat} (hn : 1 ≤ n) (hc : c < 6 * (n * n)) {q : St} (h : Inside n q.f) : ∀ s, s ≤ 4 → Inside n (stps n c s q).f
  | 0, _ => h
  | s + 1, hs => inside_stp hn hc (by omega) (inside_stps hn hc h s (by omega))
theorem inside_edq {n : Nat} (hn : 1 ≤ n) : ∀ c, c ≤ 6 * (n * n) → Inside n (edq n c).f
  | 0, _ => fun a t h => absurd rfl h
  | c + 1, hc => inside_stps hn (by omega) (inside_edq hn c (by omega)) 4 (Nat.le_refl _)
theorem num_out {n : Nat} (hn : 1 ≤ n) {a t : Int} (h : ¬ ((0 ≤ a ∧ a < ((6 * (n * n) : Nat) : Int)) ∧ 0 ≤ t ∧ t < 4)) : numF n a t = none := by
  have := inside_edq hn _ (Nat.le_refl (6 * (n * n))) a t
  by_cases h9 : numF n a t = none
  · exact h9
  · exact absurd (this h9) h

/-! ### The reference's net -/
abbrev nilP : V := .raw (.pointer none)
section
variable {m : List Blk} {b n : Nat} (N : RNet m b n)
include N
theorem rside_ok : COk Tryz.prog 3 29 [.ptr (b + 1) 0] m (I n) m := by
  refine COk_quiet Tryz.f29 Tryz.func29 (by kernel_rfl) rfl ?_
  (conv => whnf); repeat (rw [N.gr]; conv => whnf)
  exact ⟨rfl, [], by simp⟩
theorem rgedges_ok : COk Tryz.prog 3 33 [.ptr (b + 1) 0] m (I (edges n).length) m := by
  refine COk_quiet Tryz.f33 Tryz.func33 (by kernel_rfl) rfl ?_
  (conv => whnf); repeat (rw [N.gr]; conv => whnf)
  exact ⟨rfl, [], by simp⟩
theorem rgcells_ok (hn : 1 ≤ n) (hn' : n ≤ 32) : COk Tryz.prog 3 31 [.ptr (b + 1) 0] m (I (6 * (n * n) : Nat)) m := by
  have hc := rcells_ok n m
  rw [show cellsI n = ((6 * (n * n) : Nat) : Int) by rw [cellsI, if_pos ⟨by omega, by omega⟩]; simp] at hc
  refine COk_quiet Tryz.f31 Tryz.func31 (by kernel_rfl) rfl ?_
  (conv => whnf); repeat ((first | refine ⟨_, _, rside_ok N, ?_⟩ | refine ⟨_, _, hc, ?_⟩); conv => whnf)
  exact ⟨rfl, [], by simp⟩
theorem redge_ok (e : Nat) (x : Ed) (hx : (edges n)[e]? = some x) : COk Tryz.prog 3 92 [.ptr (b + 1) 0, I e] m (.tup [.agg [I x.1, I x.2.1, I x.2.2.1, I x.2.2.2], Bo true]) m := by
  have he : e < (edges n).length := (List.getElem?_eq_some_iff.1 hx).1
  obtain ⟨r1, r2, r3, r4⟩ := flatE_get (edges n) e _ hx
  have hfl := flatE_len (edges n)
  have hbl : ∀ j, j < (flatE (edges n)).length → Nat.blt j (flatE (edges n)).length = true := fun j hj => by simpa using hj
  refine COk_quiet Tryz.f92 Tryz.func92 (by kernel_rfl) rfl ?_
  (conv => whnf); repeat ((first | refine ⟨_, _, rgedges_ok (N.more _), ?_⟩ | refine br_d ⟨by omega, by omega⟩ ?_ | rw [(N.more _).gr] | rw [(N.more _).ed] | refine br_yes (hbl (0 + e * 4) (by omega)) ?_ | refine br_yes (hbl (0 + e * 4 + 1) (by omega)) ?_ | refine br_yes (hbl (0 + e * 4 + 1 + 1) (by omega)) ?_ | refine br_yes (hbl (0 + e * 4 + 1 + 1 + 1) (by omega)) ?_ | refine br_nd (by omega) ?_ | refine setB_app0 ?_ | rw [getB_app0] | refine addB_f0 ?_); conv => whnf)
  refine ⟨?_, _, rfl⟩
  show V.tup [.agg [I ((flatE (edges n)).getD (0 + e * 4) 0), I ((flatE (edges n)).getD (0 + e * 4 + 1) 0), I ((flatE (edges n)).getD (0 + e * 4 + 1 + 1) 0), I ((flatE (edges n)).getD (0 + e * 4 + 1 + 1 + 1) 0)], Bo true] = _
  rw [Nat.zero_add, r1, r2, r3, r4]
theorem redge_no (e : Int) (he : ¬ (0 ≤ e ∧ e < (edges n).length)) : COk Tryz.prog 3 92 [.ptr (b + 1) 0, I e] m (.tup [.agg [I 0, I 0, I 0, I 0], Bo false]) m := by
  by_cases h0 : e < 0
  · refine COk_quiet Tryz.f92 Tryz.func92 (by kernel_rfl) rfl ?_
    (conv => whnf); repeat ((first | refine br_d (by omega) ?_ | refine setB_app0 ?_ | rw [getB_app0] | refine addB_f0 ?_); conv => whnf)
    exact ⟨rfl, _, rfl⟩
  · refine COk_quiet Tryz.f92 Tryz.func92 (by kernel_rfl) rfl ?_
    (conv => whnf); repeat ((first | refine ⟨_, _, rgedges_ok (N.more _), ?_⟩ | refine br_d (by omega) ?_ | refine br_nd (by omega) ?_ | refine setB_app0 ?_ | rw [getB_app0] | refine addB_f0 ?_); conv => whnf)
    exact ⟨rfl, _, rfl⟩
theorem raround_no (hn : 1 ≤ n) (hn' : n ≤ 32) (c s : Int) (h : ¬ ((0 ≤ c ∧ c < ((6 * (n * n) : Nat) : Int)) ∧ 0 ≤ s ∧ s < 4)) : COk Tryz.prog 3 93 [.ptr (b + 1) 0, I c, I s] m (.tup [I 0, I 0]) m := by
  refine COk_quiet Tryz.f93 Tryz.func93 (by kernel_rfl) rfl ?_
  conv => whnf
  refine br_di (fun k0 => ?_) (fun k0 => ?_) <;> conv => whnf
  · exact ⟨rfl, [], by simp⟩
  refine ⟨_, _, rgcells_ok N hn hn', ?_⟩
  conv => whnf
  refine br_di (fun k1 => ?_) (fun k1 => ?_) <;> conv => whnf
  · exact ⟨rfl, [], by simp⟩
  refine br_di (fun k2 => ?_) (fun k2 => ?_) <;> conv => whnf
  · exact ⟨rfl, [], by simp⟩
  refine br_di (fun k3 => ?_) (fun k3 => ?_) <;> conv => whnf
  · exact ⟨rfl, [], by simp⟩
  omega
theorem raround_ok (hn : 1 ≤ n) (hn' : n ≤ 32) {c s : Nat} (hc : c < 6 * (n * n)) (hs : s < 4) (e : Nat) (x : Ed) (h : numF n c s = some (e : Int)) (hx : (edges n)[e]? = some x) : COk Tryz.prog 3 93 [.ptr (b + 1) 0, I c, I s] m (.tup [I e, I (if (x.1 : Int) = c then 1 else -1)]) m := by
  have hN : 6 * (n * n) ≤ 6144 := by
    have h2 : n * n ≤ 32 * 32 := Nat.mul_le_mul hn' hn'
    omega
  have he : e < (edges n).length := (List.getElem?_eq_some_iff.1 hx).1
  obtain ⟨r1, r2, r3, r4⟩ := flatE_get (edges n) e _ hx
  have hfl := flatE_len (edges n)
  have c3 : Tryz.prog.cellsOf 3 = 1 := by kernel_rfl
  have hw : IntKind.i64.wrap (IntKind.i64.wrap (4 * (c : Int)) + s) = ((4 * c + s : Nat) : Int) := by first | (simp (disch := omega) only [wrap_id]; done) | (simp (disch := omega) only [wrap_id]; omega)
  have hb1 : (0 + ((4 * c + s : Nat) : Int).toNat * Tryz.prog.cellsOf 3).blt (arF (6 * (n * n)) (numF n)).length = true := by
    rw [c3, arF_len]; show Nat.blt (0 + (4 * c + s) * 1) _ = true; first | (simp; done) | (simp; omega)
  have hg1 : (arF (6 * (n * n)) (numF n)).getD (0 + ((4 * c + s : Nat) : Int).toNat * Tryz.prog.cellsOf 3) 0 = (e : Int) := by
    rw [c3, show 0 + ((4 * c + s : Nat) : Int).toNat * 1 = 4 * c + s by rw [Int.toNat_natCast]; omega, arF_get hc hs, h]; rfl
  have hb2 : Nat.blt (0 + e * 4) (flatE (edges n)).length = true := by first | (simp; done) | (simp; omega)
  have hg2 : (flatE (edges n)).getD (0 + e * 4) 0 = x.1 := by rw [Nat.zero_add]; exact r1
  by_cases hx1 : (x.1 : Int) = c
  · rw [if_pos hx1]
    refine COk_quiet Tryz.f93 Tryz.func93 (by kernel_rfl) rfl ?_
    (conv => whnf); repeat ((first | refine ⟨_, _, rgcells_ok N hn hn', ?_⟩ | rw [N.gr] | rw [hw] | refine br_d (by omega) ?_ | refine br_nd (by omega) ?_); conv => whnf)
    (conv => whnf); repeat ((first | rw [N.ar] | refine br_yes hb1 ?_); conv => whnf)
    rw [hg1]
    (conv => whnf); repeat ((first | rw [N.gr] | rw [N.ed] | refine br_yes hb2 ?_ | refine br_d (by omega) ?_); conv => whnf)
    refine br_yes (show ((flatE (edges n)).getD (0 + e * 4) 0 == (c : Int)) = true by rw [hg2]; exact beq_iff_eq.2 hx1) ?_
    (conv => whnf)
    exact ⟨rfl, [], by simp⟩
  · rw [if_neg hx1]
    refine COk_quiet Tryz.f93 Tryz.func93 (by kernel_rfl) rfl ?_
    (conv => whnf); repeat ((first | refine ⟨_, _, rgcells_ok N hn hn', ?_⟩ | rw [N.gr] | rw [hw] | refine br_d (by omega) ?_ | refine br_nd (by omega) ?_); conv => whnf)
    (conv => whnf); repeat ((first | rw [N.ar] | refine br_yes hb1 ?_); conv => whnf)
    rw [hg1]
    (conv => whnf); repeat ((first | rw [N.gr] | rw [N.ed] | refine br_yes hb2 ?_ | refine br_d (by omega) ?_); conv => whnf)
    refine br_no (show ((flatE (edges n)).getD (0 + e * 4) 0 == (c : Int)) = false by rw [hg2]; exact beq_eq_false_iff_ne.2 hx1) ?_
    (conv => whnf)
    exact ⟨rfl, [], by simp⟩
theorem rbehind_no (e : Int) (he : ¬ (0 ≤ e ∧ e < (edges n).length)) : COk Tryz.prog 3 94 [.ptr (b + 1) 0, I e] m (.tup [I 0, I 0, Bo false]) m := by
  refine COk_quiet Tryz.f94 Tryz.func94 (by kernel_rfl) rfl ?_
  (conv => whnf); repeat ((first | refine ⟨_, _, redge_no N e he, ?_⟩ | refine setB_app0 ?_ | rw [getB_app0] | refine addB_f0 ?_); conv => whnf)
  exact ⟨rfl, _, rfl⟩
theorem rlength_no (e : Int) (he : ¬ (0 ≤ e ∧ e < (edges n).length)) : COk Tryz.prog 3 97 [.ptr (b + 1) 0, I e] m (F 0) m := by
  refine COk_quiet Tryz.f97 Tryz.func97 (by kernel_rfl) rfl ?_
  (conv => whnf); repeat ((first | refine ⟨_, _, redge_no N e he, ?_⟩ | refine setB_app0 ?_ | rw [getB_app0] | refine addB_f0 ?_); conv => whnf)
  exact ⟨rfl, _, rfl⟩
theorem rggap9_no (e : Int) (he : ¬ (0 ≤ e ∧ e < (edges n).length)) : COk Tryz.prog 3 99 [.ptr (b + 1) 0, I e] m (F 0) m := by
  refine COk_quiet Tryz.f99 Tryz.func99 (by kernel_rfl) rfl ?_
  (conv => whnf); repeat ((first | refine ⟨_, _, redge_no N e he, ?_⟩ | refine setB_app0 ?_ | rw [getB_app0] | refine addB_f0 ?_); conv => whnf)
  exact ⟨rfl, _, rfl⟩
end
section
variable {m : List Blk} {b n : Nat} (hm : Top m) (N : RNet m b n)
include hm N
theorem rbehind_ok (hn : 1 ≤ n) (hn' : n ≤ 32) (e : Nat) (x : Ed) (hx : (edges n)[e]? = some x) : COk Tryz.prog 3 94 [.ptr (b + 1) 0, I e] m (.tup [I (nbC n x.1 ((x.2.1 + 2) % 4)).1, I (nbC n x.2.2.1 ((x.2.2.2 + 2) % 4)).1, Bo true]) m := by
  obtain ⟨h1, h2, h3, h4, h5, h6, h7⟩ := edge_of hn hx
  have q1 := topM hm (rbeside_c (c := x.1) (s := (x.2.1 + 2) % 4) hn hn' h1 (by omega))
  have q2 := topM hm (rbeside_c (c := x.2.2.1) (s := (x.2.2.2 + 2) % 4) hn hn' h4 (by omega))
  rw [← wrap4 _ h2] at q1
  rw [← wrap4 _ h5] at q2
  refine COk_quiet Tryz.f94 Tryz.func94 (by kernel_rfl) rfl ?_
  (conv => whnf); repeat ((first | refine ⟨_, _, redge_ok N e x hx, ?_⟩ | rw [(N.more _).gr] | refine ⟨_, q1 _, ?_⟩ | refine ⟨_, q2 _, ?_⟩ | refine setB_app0 ?_ | rw [getB_app0] | refine addB_f0 ?_); conv => whnf)
  exact ⟨rfl, _, rfl⟩
theorem rlength_at (hn : 1 ≤ n) (hn' : n ≤ 32) (e : Nat) (x : Ed) (hx : (edges n)[e]? = some x) : COk Tryz.prog 3 97 [.ptr (b + 1) 0, I e] m (F (lnE n x)) m := by
  obtain ⟨h1, h2, h3, h4, h5, h6, h7⟩ := edge_of hn hx
  obtain ⟨p0, p1, p2, p3⟩ := cell_parts hn h1
  have q := topM hm (rglen_in n (x.1 / (n * n)) (x.1 % n) (x.1 / n % n) x.2.1 hn hn' p1 p2 p3 h2)
  rw [← p0] at q
  refine COk_quiet Tryz.f97 Tryz.func97 (by kernel_rfl) rfl ?_
  (conv => whnf); repeat ((first | refine ⟨_, _, redge_ok N e x hx, ?_⟩ | rw [(N.more _).gr] | refine ⟨_, q _, ?_⟩ | refine setB_app0 ?_ | rw [getB_app0] | refine addB_f0 ?_); conv => whnf)
  exact ⟨rfl, _, rfl⟩
theorem rggap_at (hn : 1 ≤ n) (hn' : n ≤ 32) (e : Nat) (x : Ed) (hx : (edges n)[e]? = some x) : COk Tryz.prog 3 99 [.ptr (b + 1) 0, I e] m (F (gpE n x)) m := by
  obtain ⟨h1, h2, h3, h4, h5, h6, h7⟩ := edge_of hn hx
  obtain ⟨p0, p1, p2, p3⟩ := cell_parts hn h1
  have q := topM hm (rggap_in n (x.1 / (n * n)) (x.1 % n) (x.1 / n % n) x.2.1 hn hn' p1 p2 p3 h2)
  rw [← p0] at q
  refine COk_quiet Tryz.f99 Tryz.func99 (by kernel_rfl) rfl ?_
  (conv => whnf); repeat ((first | refine ⟨_, _, redge_ok N e x hx, ?_⟩ | rw [(N.more _).gr] | refine ⟨_, q _, ?_⟩ | refine setB_app0 ?_ | rw [getB_app0] | refine addB_f0 ?_); conv => whnf)
  exact ⟨rfl, _, rfl⟩
theorem rgarea_ok (hn : 1 ≤ n) (hn' : n ≤ 32) {c : Nat} (hc : c < 6 * (n * n)) : COk Tryz.prog 3 95 [.ptr (b + 1) 0, I c] m (I (areaC n c)) m := by
  obtain ⟨p0, p1, p2, p3⟩ := cell_parts hn hc
  have q := topM hm (rarea_in n (c / (n * n)) (c % n) (c / n % n) hn hn' p1 p2 p3) []
  rw [← p0, List.append_nil] at q
  refine COk_quiet Tryz.f95 Tryz.func95 (by kernel_rfl) rfl ?_
  (conv => whnf); repeat ((first | refine ⟨_, _, rside_ok N, ?_⟩ | refine ⟨_, _, q, ?_⟩); conv => whnf)
  exact ⟨rfl, [], by simp⟩
theorem rgarea_no (hn : 1 ≤ n) (hn' : n ≤ 32) {c : Int} (hc : ¬ (0 ≤ c ∧ c < ((6 * (n * n) : Nat) : Int))) : COk Tryz.prog 3 95 [.ptr (b + 1) 0, I c] m (I 0) m := by
  have q := topM hm (rarea_no n c (by rw [cellsI, if_pos ⟨by omega, by omega⟩]; push_cast at hc; exact hc)) []
  rw [List.append_nil] at q
  refine COk_quiet Tryz.f95 Tryz.func95 (by kernel_rfl) rfl ?_
  (conv => whnf); repeat ((first | refine ⟨_, _, rside_ok N, ?_⟩ | refine ⟨_, _, q, ?_⟩); conv => whnf)
  exact ⟨rfl, [], by simp⟩
end
/-! ### The program's net where nothing is -/
section
variable {m : List Blk} {b n : Nat} (N : Net m b n)
include N
theorem behind_no (e : Int) (he : ¬ (0 ≤ e ∧ e < (edges n).length)) : COk Tryz.prog 3 87 [.ptr (b + 1) 0, I e] m (.tup [I 0, I 0, Bo false]) m := by
  have hi := is_ok N e
  rw [decide_eq_false he] at hi
  refine COk_quiet Tryz.f87 Tryz.func87 (by kernel_rfl) rfl ?_
  (conv => whnf); repeat (refine ⟨_, _, hi, ?_⟩; conv => whnf)
  exact ⟨rfl, [], by simp⟩
theorem glength_no (e : Int) (he : ¬ (0 ≤ e ∧ e < (edges n).length)) : COk Tryz.prog 3 96 [.ptr (b + 1) 0, I e] m (F 0) m := by
  have hi := is_ok N e
  rw [decide_eq_false he] at hi
  refine COk_quiet Tryz.f96 Tryz.func96 (by kernel_rfl) rfl ?_
  (conv => whnf); repeat (refine ⟨_, _, hi, ?_⟩; conv => whnf)
  exact ⟨rfl, [], by simp⟩
theorem ggap_e_no (e : Int) (he : ¬ (0 ≤ e ∧ e < (edges n).length)) : COk Tryz.prog 3 98 [.ptr (b + 1) 0, I e] m (F 0) m := by
  have hi := is_ok N e
  rw [decide_eq_false he] at hi
  refine COk_quiet Tryz.f98 Tryz.func98 (by kernel_rfl) rfl ?_
  (conv => whnf); repeat (refine ⟨_, _, hi, ?_⟩; conv => whnf)
  exact ⟨rfl, [], by simp⟩
theorem garea_no {c : Int} (hc : ¬ (0 ≤ c ∧ c < ((6 * (n * n) : Nat) : Int))) : COk Tryz.prog 3 88 [.ptr (b + 1) 0, I c] m (I 0) m := by
  by_cases h0 : c < 0
  · refine COk_quiet Tryz.f88 Tryz.func88 (by kernel_rfl) rfl ?_
    (conv => whnf); repeat (refine br_d (by omega) ?_; conv => whnf)
    exact ⟨rfl, [], by simp⟩
  · refine COk_quiet Tryz.f88 Tryz.func88 (by kernel_rfl) rfl ?_
    (conv => whnf); repeat ((first | rw [N.gr] | refine br_d (by omega) ?_ | refine br_nd (by omega) ?_); conv => whnf)
    exact ⟨rfl, [], by simp⟩
end
/-! ### None -/
theorem nil_side (m : List Blk) : COk Tryz.prog 3 28 [nilP] m (I 0) m := by
  refine COk_quiet Tryz.f28 Tryz.func28 (by kernel_rfl) rfl ?_
  (conv => whnf)
  exact ⟨rfl, [], by simp⟩
theorem nil_cells (m : List Blk) : COk Tryz.prog 3 30 [nilP] m (I 0) m := by
  refine COk_quiet Tryz.f30 Tryz.func30 (by kernel_rfl) rfl ?_
  (conv => whnf)
  exact ⟨rfl, [], by simp⟩
theorem nil_edges (m : List Blk) : COk Tryz.prog 3 32 [nilP] m (I 0) m := by
  refine COk_quiet Tryz.f32 Tryz.func32 (by kernel_rfl) rfl ?_
  (conv => whnf)
  exact ⟨rfl, [], by simp⟩
theorem nil_is (e : Int) (m : List Blk) : COk Tryz.prog 3 176 [nilP, I e] m (Bo false) m := by
  refine COk_quiet Tryz.f176 Tryz.func176 (by kernel_rfl) rfl ?_
  (conv => whnf)
  exact ⟨rfl, [], by simp⟩
theorem nil_edge (e : Int) (m : List Blk) : COk Tryz.prog 3 85 [nilP, I e] m (.tup [.agg [I 0, I 0, I 0, I 0], Bo false]) m := by
  refine COk_quiet Tryz.f85 Tryz.func85 (by kernel_rfl) rfl ?_
  (conv => whnf); repeat ((first | refine ⟨_, _, nil_is _ _, ?_⟩ | refine setB_app0 ?_ | rw [getB_app0] | refine addB_f0 ?_); conv => whnf)
  exact ⟨rfl, _, rfl⟩
theorem nil_around (c s : Int) (m : List Blk) : COk Tryz.prog 3 86 [nilP, I c, I s] m (.tup [I 0, I 0]) m := by
  refine COk_quiet Tryz.f86 Tryz.func86 (by kernel_rfl) rfl ?_
  (conv => whnf)
  exact ⟨rfl, [], by simp⟩
theorem nil_behind (e : Int) (m : List Blk) : COk Tryz.prog 3 87 [nilP, I e] m (.tup [I 0, I 0, Bo false]) m := by
  refine COk_quiet Tryz.f87 Tryz.func87 (by kernel_rfl) rfl ?_
  (conv => whnf); repeat (refine ⟨_, _, nil_is _ _, ?_⟩; conv => whnf)
  exact ⟨rfl, [], by simp⟩
theorem nil_area (c : Int) (m : List Blk) : COk Tryz.prog 3 88 [nilP, I c] m (I 0) m := by
  refine COk_quiet Tryz.f88 Tryz.func88 (by kernel_rfl) rfl ?_
  (conv => whnf)
  exact ⟨rfl, [], by simp⟩
theorem nil_length (e : Int) (m : List Blk) : COk Tryz.prog 3 96 [nilP, I e] m (F 0) m := by
  refine COk_quiet Tryz.f96 Tryz.func96 (by kernel_rfl) rfl ?_
  (conv => whnf); repeat (refine ⟨_, _, nil_is _ _, ?_⟩; conv => whnf)
  exact ⟨rfl, [], by simp⟩
theorem nil_gap (e : Int) (m : List Blk) : COk Tryz.prog 3 98 [nilP, I e] m (F 0) m := by
  refine COk_quiet Tryz.f98 Tryz.func98 (by kernel_rfl) rfl ?_
  (conv => whnf); repeat (refine ⟨_, _, nil_is _ _, ?_⟩; conv => whnf)
  exact ⟨rfl, [], by simp⟩
theorem rnil_side (m : List Blk) : COk Tryz.prog 3 29 [nilP] m (I 0) m := by
  refine COk_quiet Tryz.f29 Tryz.func29 (by kernel_rfl) rfl ?_
  (conv => whnf)
  exact ⟨rfl, [], by simp⟩
theorem rnil_cells (m : List Blk) : COk Tryz.prog 3 31 [nilP] m (I 0) m := by
  have hc := rcells_ok 0 m
  rw [show cellsI 0 = 0 from if_neg (by decide)] at hc
  refine COk_quiet Tryz.f31 Tryz.func31 (by kernel_rfl) rfl ?_
  (conv => whnf); repeat ((first | refine ⟨_, _, rnil_side _, ?_⟩ | refine ⟨_, _, hc, ?_⟩); conv => whnf)
  exact ⟨rfl, [], by simp⟩
theorem rnil_edges (m : List Blk) : COk Tryz.prog 3 33 [nilP] m (I 0) m := by
  refine COk_quiet Tryz.f33 Tryz.func33 (by kernel_rfl) rfl ?_
  (conv => whnf)
  exact ⟨rfl, [], by simp⟩
theorem rnil_edge (e : Int) (m : List Blk) : COk Tryz.prog 3 92 [nilP, I e] m (.tup [.agg [I 0, I 0, I 0, I 0], Bo false]) m := by
  by_cases h0 : e < 0
  · refine COk_quiet Tryz.f92 Tryz.func92 (by kernel_rfl) rfl ?_
    (conv => whnf); repeat ((first | refine br_d (by omega) ?_ | refine setB_app0 ?_ | rw [getB_app0] | refine addB_f0 ?_); conv => whnf)
    exact ⟨rfl, _, rfl⟩
  · refine COk_quiet Tryz.f92 Tryz.func92 (by kernel_rfl) rfl ?_
    (conv => whnf); repeat ((first | refine ⟨_, _, rnil_edges _, ?_⟩ | refine br_d (by omega) ?_ | refine br_nd (by omega) ?_ | refine setB_app0 ?_ | rw [getB_app0] | refine addB_f0 ?_); conv => whnf)
    exact ⟨rfl, _, rfl⟩
theorem rnil_around (c s : Int) (m : List Blk) : COk Tryz.prog 3 93 [nilP, I c, I s] m (.tup [I 0, I 0]) m := by
  by_cases h0 : c < 0
  · refine COk_quiet Tryz.f93 Tryz.func93 (by kernel_rfl) rfl ?_
    (conv => whnf); repeat (refine br_d (by omega) ?_; conv => whnf)
    exact ⟨rfl, [], by simp⟩
  · refine COk_quiet Tryz.f93 Tryz.func93 (by kernel_rfl) rfl ?_
    (conv => whnf); repeat ((first | refine ⟨_, _, rnil_cells _, ?_⟩ | refine br_d (by omega) ?_ | refine br_nd (by omega) ?_); conv => whnf)
    exact ⟨rfl, [], by simp⟩
theorem rnil_behind (e : Int) (m : List Blk) : COk Tryz.prog 3 94 [nilP, I e] m (.tup [I 0, I 0, Bo false]) m := by
  refine COk_quiet Tryz.f94 Tryz.func94 (by kernel_rfl) rfl ?_
  (conv => whnf); repeat ((first | refine ⟨_, _, rnil_edge _ _, ?_⟩ | refine setB_app0 ?_ | rw [getB_app0] | refine addB_f0 ?_); conv => whnf)
  exact ⟨rfl, _, rfl⟩
theorem rnil_area {m : List Blk} (hm : Top m) (c : Int) : COk Tryz.prog 3 95 [nilP, I c] m (I 0) m := by
  have q := topM hm (rarea_no 0 c (by rw [cellsI, if_neg (by decide)]; omega)) []
  rw [List.append_nil] at q
  refine COk_quiet Tryz.f95 Tryz.func95 (by kernel_rfl) rfl ?_
  (conv => whnf); repeat ((first | refine ⟨_, _, rnil_side _, ?_⟩ | refine ⟨_, _, q, ?_⟩); conv => whnf)
  exact ⟨rfl, [], by simp⟩
theorem rnil_length (e : Int) (m : List Blk) : COk Tryz.prog 3 97 [nilP, I e] m (F 0) m := by
  refine COk_quiet Tryz.f97 Tryz.func97 (by kernel_rfl) rfl ?_
  (conv => whnf); repeat ((first | refine ⟨_, _, rnil_edge _ _, ?_⟩ | refine setB_app0 ?_ | rw [getB_app0] | refine addB_f0 ?_); conv => whnf)
  exact ⟨rfl, _, rfl⟩
theorem rnil_gap (e : Int) (m : List Blk) : COk Tryz.prog 3 99 [nilP, I e] m (F 0) m := by
  refine COk_quiet Tryz.f99 Tryz.func99 (by kernel_rfl) rfl ?_
  (conv => whnf); repeat ((first | refine ⟨_, _, rnil_edge _ _, ?_⟩ | refine setB_app0 ?_ | rw [getB_app0] | refine addB_f0 ?_); conv => whnf)
  exact ⟨rfl, _, rfl⟩
end Go.Proofs.YthoofdnnfahhaaaGreatDoor
