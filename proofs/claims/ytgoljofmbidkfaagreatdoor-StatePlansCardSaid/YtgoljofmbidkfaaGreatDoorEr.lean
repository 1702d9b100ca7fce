import Derived.Test.YtgoljofmbidkfaaGreatDoorE21
/- The engine: parts 24 to 25. No condition. -/
/- The engine, part 24: a contract elsewhere in memory; a contract's memory looked at anew. No condition. -/
namespace Go.Eng
open Go
set_option linter.unusedSimpArgs false
set_option linter.unusedVariables false

/-! ### Renaming of blocks -/
mutual
def V.ren (r : Nat → Nat) : V → V
  | .ptr i o => .ptr (r i) o
  | .sl i o n => .sl (r i) o n
  | .gp i v o => .gp (r i) v o
  | .gs i v e n => .gs (r i) v e n
  | .mp i => .mp (r i)
  | .sk i o n c => .sk (r i) o n c
  | .agg cs => .agg (renL r cs)
  | .tup cs => .tup (renL r cs)
  | .clo f a b => .clo f (renL r a) (renL r b)
  | v => v
def renL (r : Nat → Nat) : List V → List V
  | [] => []
  | v :: vs => v.ren r :: renL r vs
end
def B.ren (r : Nat → Nat) : B → B
  | .cells cs => .cells (renL r cs)
  | .gcells v cs => .gcells v (renL r cs)
  | b => b
def Blk.ren (r : Nat → Nat) (b : Blk) : Blk := ⟨b.w, b.b.ren r⟩
theorem renL_get (r : Nat → Nat) : ∀ (l : List V) (j : Nat), (renL r l)[j]? = (l[j]?).map (V.ren r)
  | [], j => by simp [renL]
  | v :: l, 0 => by simp [renL]
  | v :: l, j + 1 => by simp [renL, renL_get r l j]
theorem B.ren_get (r : Nat → Nat) (b : B) (j : Nat) : (b.ren r).get j = (b.get j).map (V.ren r) := by
  cases b <;> simp only [B.ren, B.get]
  · rfl
  · exact renL_get r _ j
  · cases h : ‹List Int›[j]? <;> simp [V.ren]
  · cases h : ‹List Nat›[j]? <;> simp [V.ren]
  · cases h : ‹List Bool›[j]? <;> simp [V.ren]
  · cases h : ‹List Int›[j]? <;> simp [V.ren]
  · cases h : ‹List Nat›[j]? <;> simp [V.ren]
  · exact renL_get r _ j
  · rfl
theorem B.ren_live (r : Nat → Nat) (b : B) : (b.ren r).live = b.live := by cases b <;> rfl
theorem B.ren_vof (r : Nat → Nat) (b : B) : (b.ren r).vof = b.vof := by cases b <;> rfl
theorem B.ren_map (r : Nat → Nat) (b : B) (f : Int → Int → Option Int) : b.ren r = .mpI f ↔ b = .mpI f := by cases b <;> simp [B.ren]

section
variable {n N : Nat} {g G : Nat → Pl} {r : Nat → Nat}
mutual
/-- From the small memory to the great one. -/
theorem Rv_ren (hr : ∀ i, i < n → r i < N ∧ G (r i) = g i) : ∀ (v : V) {x : Value}, Rv n g v x → Rv N G (v.ren r) x
  | .bool b, x, h => h
  | .int _ _, x, h => h
  | .fl o, x, h => h
  | .raw v, x, h => h
  | .any, x, h => h
  | .ptr i off, x, h => by simp only [V.ren, Rv] at *; obtain ⟨h1, h2⟩ := hr i h.1; rw [h2]; exact ⟨h1, h.2⟩
  | .sl i off len, x, h => by simp only [V.ren, Rv] at *; obtain ⟨h1, h2⟩ := hr i h.1; rw [h2]; exact ⟨h1, h.2⟩
  | .gp i v off, x, h => by simp only [V.ren, Rv] at *; obtain ⟨h1, h2⟩ := hr i h.1; rw [h2]; exact ⟨h1, h.2⟩
  | .gs i v e len, x, h => by simp only [V.ren, Rv] at *; obtain ⟨h1, h2⟩ := hr i h.1; rw [h2]; exact ⟨h1, h.2⟩
  | .mp i, x, h => by simp only [V.ren, Rv] at *; obtain ⟨h1, h2⟩ := hr i h.1; rw [h2]; exact ⟨h1, h.2⟩
  | .sk i off len c, x, h => by simp only [V.ren, Rv] at *; obtain ⟨h1, h2⟩ := hr i h.1; rw [h2]; exact ⟨h1, h.2⟩
  | .agg cs, x, h => by
    simp only [V.ren, Rv] at *
    obtain ⟨xs, h1, h2⟩ := h
    exact ⟨xs, h1, Rvs_ren hr cs h2⟩
  | .tup cs, x, h => by
    simp only [V.ren, Rv] at *
    obtain ⟨xs, h1, h2⟩ := h
    exact ⟨xs, h1, Rvs_ren hr cs h2⟩
  | .clo fn a b, x, h => by
    simp only [V.ren, Rv] at *
    obtain ⟨xs, ys, h1, h2, h3⟩ := h
    exact ⟨xs, ys, h1, Rvs_ren hr a h2, Rvs_ren hr b h3⟩
theorem Rvs_ren (hr : ∀ i, i < n → r i < N ∧ G (r i) = g i) : ∀ (vs : List V) {xs : List Value}, Rvs n g vs xs → Rvs N G (renL r vs) xs
  | [], xs, h => h
  | v :: vs, xs, h => by
    simp only [renL, Rvs] at *
    obtain ⟨y, ys, h1, h2, h3⟩ := h
    exact ⟨y, ys, h1, Rv_ren hr v h2, Rvs_ren hr vs h3⟩
end
mutual
/-- And back, for what names blocks of the small memory alone. -/
theorem Rv_unren (hr : ∀ i, i < n → G (r i) = g i) : ∀ (v : V) {x : Value}, v.sc n = true → Rv N G (v.ren r) x → Rv n g v x
  | .bool b, x, _, h => h
  | .int _ _, x, _, h => h
  | .fl o, x, _, h => h
  | .raw v, x, _, h => h
  | .any, x, _, h => h
  | .ptr i off, x, hs, h => by
    have hi : i < n := by simpa [V.sc] using hs
    simp only [V.ren, Rv] at *; rw [hr i hi] at h; exact ⟨hi, h.2⟩
  | .sl i off len, x, hs, h => by
    have hi : i < n := by simpa [V.sc] using hs
    simp only [V.ren, Rv] at *; rw [hr i hi] at h; exact ⟨hi, h.2⟩
  | .gp i v off, x, hs, h => by
    have hi : i < n := by simpa [V.sc] using hs
    simp only [V.ren, Rv] at *; rw [hr i hi] at h; exact ⟨hi, h.2⟩
  | .gs i v e len, x, hs, h => by
    have hi : i < n := by simpa [V.sc] using hs
    simp only [V.ren, Rv] at *; rw [hr i hi] at h; exact ⟨hi, h.2⟩
  | .mp i, x, hs, h => by
    have hi : i < n := by simpa [V.sc] using hs
    simp only [V.ren, Rv] at *; rw [hr i hi] at h; exact ⟨hi, h.2⟩
  | .sk i off len c, x, hs, h => by
    have hi : i < n := by simpa [V.sc] using hs
    simp only [V.ren, Rv] at *; rw [hr i hi] at h; exact ⟨hi, h.2⟩
  | .agg cs, x, hs, h => by
    simp only [V.ren, Rv] at *
    obtain ⟨xs, h1, h2⟩ := h
    exact ⟨xs, h1, Rvs_unren hr cs hs h2⟩
  | .tup cs, x, hs, h => by
    simp only [V.ren, Rv] at *
    obtain ⟨xs, h1, h2⟩ := h
    exact ⟨xs, h1, Rvs_unren hr cs hs h2⟩
  | .clo fn a b, x, hs, h => by
    simp only [V.ren, Rv, V.sc, Bool.and_eq_true] at *
    obtain ⟨xs, ys, h1, h2, h3⟩ := h
    exact ⟨xs, ys, h1, Rvs_unren hr a hs.1 h2, Rvs_unren hr b hs.2 h3⟩
theorem Rvs_unren (hr : ∀ i, i < n → G (r i) = g i) : ∀ (vs : List V) {xs : List Value}, scL n vs = true → Rvs N G (renL r vs) xs → Rvs n g vs xs
  | [], xs, _, h => h
  | v :: vs, xs, hs, h => by
    simp only [renL, Rvs, scL, Bool.and_eq_true] at *
    obtain ⟨y, ys, h1, h2, h3⟩ := h
    exact ⟨y, ys, h1, Rv_unren hr v hs.1 h2, Rvs_unren hr vs hs.2 h3⟩
end
end

/-- What a call comes to, in one word. -/
def RunsTo (P : Program) (f : FuncId) (xs : List Value) (w : World) (R : Value → World → Prop) : Prop :=
  match (callFunc f xs.toArray).run P w with
  | .ok (.enter f' ys) w1 => Calls P f' ys w1 fun e w' => ∃ x, e = .returned x ∧ R x w'
  | .ok (.value x) w' => R x w'
  | _ => False
theorem RunsTo.mono {P : Program} {f : FuncId} {xs : List Value} {w : World} {R R' : Value → World → Prop} (h : RunsTo P f xs w R) (hh : ∀ x w', R x w' → R' x w') : RunsTo P f xs w R' := by
  unfold RunsTo at *
  cases hr : (callFunc f xs.toArray).run P w with
  | halt x w' => rw [hr] at h; exact h.elim
  | ok nx w' =>
    rw [hr] at h
    cases nx <;> first
      | exact h.elim
      | skip
    case value y => exact hh _ _ h
    case enter f2 ys2 =>
      refine Calls.mono h ?_
      rintro e w2 ⟨x, h0, h1⟩
      exact ⟨x, h0, hh _ _ h1⟩
theorem COk_iff {P : Program} {ng : Nat} {f : FuncId} {args : List V} {m : List Blk} {r : V} {m' : List Blk} : COk P ng f args m r m' ↔
    ∀ g w xs, (ng ≤ m.length ∧ ∀ i, i < ng → g i = ⟨i, 0, 0, 0⟩) → Rep g m w → Rvs m.length g args xs → RunsTo P f xs w fun x w' => ∃ g', Rv m'.length g' r x ∧ Rep g' m' w' ∧ Step g m w g' m' w' := by
  constructor
  · intro h g w xs h1 h2 h3
    have := h g w xs h1 h2 h3
    unfold RunsTo
    revert this
    cases (callFunc f xs.toArray).run P w with
    | halt x w' => exact fun h => h
    | ok nx w' =>
      cases nx <;> intro this <;> first
        | exact this.elim
        | skip
      case value y => exact this
      case enter f2 ys2 =>
        refine Calls.mono this ?_
        rintro e w2 ⟨g', x, h0, hh⟩
        exact ⟨x, h0, g', hh⟩
  · intro h g w xs h1 h2 h3
    have := h g w xs h1 h2 h3
    unfold RunsTo at this
    revert this
    cases (callFunc f xs.toArray).run P w with
    | halt x w' => exact fun h => h
    | ok nx w' =>
      cases nx <;> intro this <;> first
        | exact this.elim
        | skip
      case value y => exact this
      case enter f2 ys2 =>
        refine Calls.mono this ?_
        rintro e w2 ⟨x, h0, g', hh⟩
        exact ⟨g', x, h0, hh⟩

/-! ### A contract elsewhere in memory -/
theorem getB_of {m : List Blk} {i : Nat} {b : Blk} (h : m[i]? = some b) : getB m i = b := by
  rw [getB_eq, List.getD_eq_getElem?_getD, h]; rfl
theorem renL_args {n N : Nat} {g G : Nat → Pl} {r : Nat → Nat} (hr : ∀ i, i < n → G (r i) = g i) {args : List V} {xs : List Value} (hs : scL n args = true) (h : Rvs N G (renL r args) xs) : Rvs n g args xs := Rvs_unren hr args hs h
/-- Where a block of the callee's memory lies in the caller's. -/
def rho1 (ρ : Nat → Nat) (n N : Nat) (i : Nat) : Nat := if i < n then ρ i else N + (i - n)
/-- The callee's memory 'm' lies in 'M' by 'ρ'; behind the call 'm1' lies in 'M1'. -/
structure Laid (ng : Nat) (ρ : Nat → Nat) (m m1 M M1 : List Blk) : Prop where
  ngl : ng ≤ m.length
  glob : ∀ i, i < ng → ρ i = i
  inj : ∀ i j, i < m.length → j < m.length → ρ i = ρ j → i = j
  low : ∀ i, i < m.length → ρ i < M.length
  emb : ∀ (i : Nat) (b : Blk), m[i]? = some b → M[ρ i]? = some (b.ren ρ)
  sc : scM m.length m = true
  live : ∀ (i : Nat) (b : Blk), m[i]? = some b → b.w = true → b.b.live = true
  more : m.length ≤ m1.length
  len : M1.length = M.length + (m1.length - m.length)
  sc1 : scM m1.length m1 = true
  emb1 : ∀ (i : Nat) (b : Blk), m1[i]? = some b → M1[rho1 ρ m.length M.length i]? = some (b.ren (rho1 ρ m.length M.length))
  rest : ∀ k, k < M.length → (∀ i, i < m.length → ρ i ≠ k) → M1[k]? = M[k]?
  wold : ∀ (i : Nat) (b : Blk), m1[i]? = some b → b.w = true ∨ (i < m.length ∧ m[i]? = some b)
open Classical in
noncomputable def inv1 (ρ1 : Nat → Nat) (n : Nat) (g1 g : Nat → Pl) (k : Nat) : Pl :=
  if h : ∃ i, i < n ∧ ρ1 i = k then g1 h.choose else g k
theorem inv1_at {ρ1 : Nat → Nat} {n : Nat} {g1 g : Nat → Pl} (inj : ∀ i j, i < n → j < n → ρ1 i = ρ1 j → i = j) {i : Nat} (hi : i < n) : inv1 ρ1 n g1 g (ρ1 i) = g1 i := by
  unfold inv1
  have h : ∃ j, j < n ∧ ρ1 j = ρ1 i := ⟨i, hi, rfl⟩
  rw [dif_pos h]
  have := h.choose_spec
  rw [inj _ _ this.1 hi this.2]
theorem inv1_no {ρ1 : Nat → Nat} {n : Nat} {g1 g : Nat → Pl} {k : Nat} (h : ∀ i, i < n → ρ1 i ≠ k) : inv1 ρ1 n g1 g k = g k := by
  unfold inv1
  rw [dif_neg]
  rintro ⟨i, h1, h2⟩
  exact h i h1 h2
theorem COk.reloc {P : Program} {ng : Nat} {f : FuncId} {args : List V} {m m1 M M1 : List Blk} {r : V} (ρ : Nat → Nat) (h : COk P ng f args m r m1) (L : Laid ng ρ m m1 M M1)
    (ha : scL m.length args = true) (hr : r.sc m1.length = true) : COk P ng f (renL ρ args) M (r.ren (rho1 ρ m.length M.length)) M1 := by
  rw [COk_iff] at *
  intro g w xs hg R hx
  have hML : M.length ≤ M1.length := by rw [L.len]; omega
  have hgm : ∀ i, i < m.length → g (ρ i) = (fun i => g (ρ i)) i := fun _ _ => rfl
  have Rm : Rep (fun i => g (ρ i)) m w := by
    refine ⟨fun i b hb => ?_, fun i j b c hij hb hc hw hl hl' => ?_⟩
    · have R0 := R.blk _ _ (L.emb i b hb)
      refine ⟨R0.size, fun j v hv => ?_, fun hw hl j => R0.free hw (by rw [show (b.ren ρ).b = b.b.ren ρ from rfl, B.ren_live]; exact hl) j, fun hl j hj => R0.room (by rw [show (b.ren ρ).b = b.b.ren ρ from rfl, B.ren_live]; exact hl) j hj, fun f hf => R0.map f ((B.ren_map ρ b.b f).2 hf), ?_⟩
      · obtain ⟨x, h1, h2⟩ := R0.cell j (v.ren ρ) (by rw [show (b.ren ρ).b = b.b.ren ρ from rfl, B.ren_get, hv]; rfl)
        exact ⟨x, h1, Rv_unren (g := fun i => g (ρ i)) (fun _ _ => rfl) v (B.sc_get (scM_get L.sc hb) hv) h2⟩
      · have := R0.ver
        rwa [show (b.ren ρ).b = b.b.ren ρ from rfl, B.ren_vof] at this
    · have hi := (List.getElem?_eq_some_iff.1 hb).1
      have hj := (List.getElem?_eq_some_iff.1 hc).1
      exact R.apart (ρ i) (ρ j) (b.ren ρ) (c.ren ρ) (fun e => hij (L.inj i j hi hj e)) (L.emb i b hb) (L.emb j c hc) hw (by rw [show (b.ren ρ).b = b.b.ren ρ from rfl, B.ren_live]; exact hl) (by rw [show (c.ren ρ).b = c.b.ren ρ from rfl, B.ren_live]; exact hl')
  have key := h (fun i => g (ρ i)) w xs ⟨L.ngl, fun i hi => by show g (ρ i) = _; rw [L.glob i hi]; exact hg.2 i hi⟩ Rm (renL_args (fun _ _ => rfl) ha hx)
  refine key.mono ?_
  rintro x w' ⟨g1, k1, k2, k3⟩
  have inj1 : ∀ i j, i < m1.length → j < m1.length → rho1 ρ m.length M.length i = rho1 ρ m.length M.length j → i = j := by
    intro i j hi hj e
    unfold rho1 at e
    by_cases c1 : i < m.length
    · rw [if_pos c1] at e
      by_cases c2 : j < m.length
      · rw [if_pos c2] at e; exact L.inj i j c1 c2 e
      · rw [if_neg c2] at e
        have := L.low i c1
        omega
    · rw [if_neg c1] at e
      by_cases c2 : j < m.length
      · rw [if_pos c2] at e
        have := L.low j c2
        omega
      · rw [if_neg c2] at e; omega
  have hat : ∀ i, i < m1.length → inv1 (rho1 ρ m.length M.length) m1.length g1 g (rho1 ρ m.length M.length i) = g1 i := fun i hi => inv1_at inj1 hi
  have hlt : ∀ i, i < m1.length → rho1 ρ m.length M.length i < M1.length := by
    intro i hi
    rw [L.len]
    unfold rho1
    split
    · rename_i c; have := L.low i c; omega
    · omega
  have hren : ∀ i, i < m1.length → rho1 ρ m.length M.length i < M1.length ∧ inv1 (rho1 ρ m.length M.length) m1.length g1 g (rho1 ρ m.length M.length i) = g1 i := fun i hi => ⟨hlt i hi, hat i hi⟩
  have hold : ∀ i, i < m.length → rho1 ρ m.length M.length i = ρ i := fun i hi => by unfold rho1; rw [if_pos hi]
  have hcase : ∀ k, k < M1.length → (∃ i, i < m1.length ∧ rho1 ρ m.length M.length i = k) ∨ (k < M.length ∧ (∀ i, i < m1.length → rho1 ρ m.length M.length i ≠ k)) := by
    intro k hk
    by_cases c : ∃ i, i < m1.length ∧ rho1 ρ m.length M.length i = k
    · exact .inl c
    · refine .inr ⟨?_, fun i hi e => c ⟨i, hi, e⟩⟩
      rcases Nat.lt_or_ge k M.length with h1 | h1
      · exact h1
      · exfalso
        refine c ⟨m.length + (k - M.length), ?_, ?_⟩
        · rw [L.len] at hk; have := L.more; omega
        · unfold rho1; rw [if_neg (by omega)]; omega
  have hagk : ∀ k, k < M.length → Ag (g k) (inv1 (rho1 ρ m.length M.length) m1.length g1 g k) := by
    intro k hk
    rcases hcase k (by omega) with ⟨i, hi, e⟩ | ⟨_, hno⟩
    · have him : i < m.length := by
        rcases Nat.lt_or_ge i m.length with h1 | h1
        · exact h1
        · unfold rho1 at e; rw [if_neg (by omega)] at e; omega
      rw [← e, hat i hi, hold i him]
      exact k3.ag i him
    · rw [inv1_no hno]; exact .inl rfl
  have hM1 : ∀ k c, M1[k]? = some c → (∃ i b, m1[i]? = some b ∧ k = rho1 ρ m.length M.length i ∧ c = b.ren (rho1 ρ m.length M.length)) ∨ (k < M.length ∧ M[k]? = some c ∧ ∀ i, i < m1.length → rho1 ρ m.length M.length i ≠ k) := by
    intro k c hc
    have hk := (List.getElem?_eq_some_iff.1 hc).1
    rcases hcase k hk with ⟨i, hi, e⟩ | ⟨hkM, hno⟩
    · have hb : m1[i]? = some m1[i] := List.getElem?_eq_getElem hi
      have := L.emb1 i _ hb
      rw [e, hc] at this
      exact .inl ⟨i, _, hb, e.symm, Option.some.inj this⟩
    · refine .inr ⟨hkM, ?_, hno⟩
      rw [← L.rest k hkM (fun i hi e => hno i (by have := L.more; omega) (by rw [hold i hi]; exact e)), hc]
  have hfoot : ∀ p, Foot (fun i => g (ρ i)) m p → Foot g M p := by
    rintro p ⟨i, b, hb, hw, he⟩
    exact ⟨ρ i, _, L.emb i b hb, hw, he⟩
  -- a block of the caller's own and one of the callee's footprint lie apart
  have hapart : ∀ k c, M[k]? = some c → c.b.live = true → (∀ i, i < m1.length → rho1 ρ m.length M.length i ≠ k) → ∀ i b, m[i]? = some b → b.w = true → (g (ρ i)).1 ≠ (g k).1 := by
    intro k c hc hl hno i b hb hw
    have hi := (List.getElem?_eq_some_iff.1 hb).1
    refine R.apart (ρ i) k (b.ren ρ) c ?_ (L.emb i b hb) hc hw (by rw [show (b.ren ρ).b = b.b.ren ρ from rfl, B.ren_live]; exact L.live i b hb hw) hl
    have := hno i (by have := L.more; omega)
    rwa [hold i hi] at this
  have hsame : ∀ k c, M[k]? = some c → c.b.live = true → (∀ i, i < m1.length → rho1 ρ m.length M.length i ≠ k) → w'.heap[(g k).1]? = w.heap[(g k).1]? := by
    intro k c hc hl hno
    refine k3.same _ (R.blk k c hc).size ?_
    rintro ⟨i, b, hb, hw, he⟩
    exact hapart k c hc hl hno i b hb hw he
  -- a block that the callee leaves behind lies apart from one of the caller's own
  have hmix : ∀ i b k c, m1[i]? = some b → b.b.live = true → M[k]? = some c → c.b.live = true → (b.w = true ∨ c.w = true) → (∀ i, i < m1.length → rho1 ρ m.length M.length i ≠ k) → (g1 i).1 ≠ (g k).1 := by
    intro i b k c hb hbl hc hcl hw hno e
    have hkw := (R.blk k c hc).size
    rcases L.wold i b hb with hbw | ⟨him, hbm⟩
    · obtain ⟨j, d, hd, hdw, hde⟩ := k3.foot (g k).1 hkw ⟨i, b, hb, hbw, e⟩
      exact hapart k c hc hcl hno j d hd hdw hde
    · have hg1 : g1 i = g (ρ i) := by
        rcases (k3.agree i him).2 with h1 | ⟨h1, _⟩
        · exact h1
        · rw [getB_of hb, getB_of hbm] at h1; omega
      rw [hg1] at e
      have hne : ρ i ≠ k := by
        have := hno i (by have := L.more; omega)
        rwa [hold i him] at this
      have hbl' : (b.ren ρ).b.live = true := by rw [show (b.ren ρ).b = b.b.ren ρ from rfl, B.ren_live]; exact hbl
      rcases hw with hw | hw
      · exact R.apart (ρ i) k (b.ren ρ) c hne (L.emb i b hbm) hc hw hbl' hcl e
      · exact R.apart k (ρ i) c (b.ren ρ) (Ne.symm hne) hc (L.emb i b hbm) hw hcl hbl' e.symm
  refine ⟨inv1 (rho1 ρ m.length M.length) m1.length g1 g, Rv_ren hren r k1, ⟨fun k c hc => ?_, fun k k' c c' hkk hc hc' hw hl hl' => ?_⟩, ⟨hML, fun k hk => ?_, k3.os, k3.tape, k3.output, k3.size, fun p hp hf => k3.same p hp fun hf' => hf (hfoot p hf'), fun p hp hf => ?_⟩⟩
  · rcases hM1 k c hc with ⟨i, b, hb, rfl, rfl⟩ | ⟨hkM, hcM, hno⟩
    · have hi := (List.getElem?_eq_some_iff.1 hb).1
      have R1 := k2.blk i b hb
      rw [hat i hi]
      refine ⟨R1.size, fun j u hu => ?_, fun hw hl j => R1.free hw (by rw [show (b.ren _).b = b.b.ren _ from rfl, B.ren_live] at hl; exact hl) j, fun hl j hj => R1.room (by rw [show (b.ren _).b = b.b.ren _ from rfl, B.ren_live] at hl; exact hl) j hj, fun f hf => R1.map f ((B.ren_map _ b.b f).1 hf), ?_⟩
      · rw [show (b.ren (rho1 ρ m.length M.length)).b = b.b.ren (rho1 ρ m.length M.length) from rfl, B.ren_get] at hu
        cases hv : b.b.get j with
        | none => rw [hv] at hu; exact nomatch hu
        | some v =>
          rw [hv] at hu
          cases hu
          obtain ⟨y, h1, h2⟩ := R1.cell j v hv
          exact ⟨y, h1, Rv_ren hren v h2⟩
      · rw [show (b.ren (rho1 ρ m.length M.length)).b = b.b.ren (rho1 ρ m.length M.length) from rfl, B.ren_vof]; exact R1.ver
    · have R0 := R.blk k c hcM
      rw [inv1_no hno]
      by_cases hl : c.b.live = true
      · exact R0.congr (hsame k c hcM hl hno) hML hagk
      · exact ⟨Nat.lt_of_lt_of_le R0.size k3.size, fun j v hv => absurd (live_of_get hv) hl, fun _ h => absurd h hl, fun h => absurd h hl, fun f hf => absurd (by rw [hf]; rfl) hl, R0.ver⟩
  · rcases hM1 k c hc with ⟨i, b, hb, rfl, rfl⟩ | ⟨hkM, hcM, hno⟩
    · have hi := (List.getElem?_eq_some_iff.1 hb).1
      rw [show (b.ren (rho1 ρ m.length M.length)).b = b.b.ren (rho1 ρ m.length M.length) from rfl, B.ren_live] at hl
      rw [hat i hi]
      rcases hM1 k' c' hc' with ⟨j, d, hd, rfl, rfl⟩ | ⟨hkM', hcM', hno'⟩
      · have hj := (List.getElem?_eq_some_iff.1 hd).1
        rw [show (d.ren (rho1 ρ m.length M.length)).b = d.b.ren (rho1 ρ m.length M.length) from rfl, B.ren_live] at hl'
        rw [hat j hj]
        exact k2.apart i j b d (fun e => hkk (by rw [e])) hb hd hw hl hl'
      · rw [inv1_no hno']
        exact hmix i b k' c' hb hl hcM' hl' (.inl hw) hno'
    · rw [inv1_no hno]
      rcases hM1 k' c' hc' with ⟨j, d, hd, rfl, rfl⟩ | ⟨hkM', hcM', hno'⟩
      · have hj := (List.getElem?_eq_some_iff.1 hd).1
        rw [show (d.ren (rho1 ρ m.length M.length)).b = d.b.ren (rho1 ρ m.length M.length) from rfl, B.ren_live] at hl'
        rw [hat j hj]
        exact (hmix j d k c hd hl' hcM hl (.inr hw) hno).symm
      · rw [inv1_no hno']
        exact R.apart k k' c c' hkk hcM hcM' hw hl hl'
  · rcases hcase k (by omega) with ⟨i, hi, e⟩ | ⟨_, hno⟩
    · have him : i < m.length := by
        rcases Nat.lt_or_ge i m.length with h1 | h1
        · exact h1
        · unfold rho1 at e; rw [if_neg (by omega)] at e; omega
      have hb : m[i]? = some m[i] := List.getElem?_eq_getElem him
      have hb1 : m1[i]? = some m1[i] := List.getElem?_eq_getElem hi
      have e1 := L.emb i _ hb
      have e2 := L.emb1 i _ hb1
      have ek : ρ i = k := by rw [← hold i him]; exact e
      have hag := k3.agree i him
      rw [getB_of hb, getB_of hb1] at hag
      rw [ek] at e1
      rw [e] at e2
      rw [getB_of e1, getB_of e2]
      rw [show (m[i].ren ρ).b = m[i].b.ren ρ from rfl, B.ren_vof, show (m1[i].ren (rho1 ρ m.length M.length)).b = m1[i].b.ren (rho1 ρ m.length M.length) from rfl, B.ren_vof]
      have e3 : inv1 (rho1 ρ m.length M.length) m1.length g1 g k = g1 i := by rw [← e]; exact hat i hi
      rw [e3]
      rw [ek] at hag
      exact hag
    · have hc : M1[k]? = M[k]? := L.rest k hk (fun i hi e => hno i (by have := L.more; omega) (by rw [hold i hi]; exact e))
      rw [getB_eq, getB_eq, List.getD_eq_getElem?_getD, List.getD_eq_getElem?_getD, hc, inv1_no hno]
      exact ⟨Nat.le_refl _, .inl rfl⟩
  · obtain ⟨k, c, hc, hw, he⟩ := hf
    rcases hM1 k c hc with ⟨i, b, hb, rfl, rfl⟩ | ⟨hkM, hcM, hno⟩
    · have hi := (List.getElem?_eq_some_iff.1 hb).1
      rw [hat i hi] at he
      exact hfoot p (k3.foot p hp ⟨i, b, hb, hw, he⟩)
    · rw [inv1_no hno] at he
      exact ⟨k, c, hcM, hw, he⟩
end Go.Eng
/- The engine, part 25: rows that grow no more; small tools for callers. No condition. -/
namespace Go.Eng
open Go

/-! ### Rows that grow no more -/
mutual
/-- 'c i = some u': block i has grown to version u and stays so. -/
def V.stl (c : Nat → Option Nat) : V → V
  | .gs i v e n => match c i with
    | some _ => .sl i 0 n
    | none => .gs i v e n
  | .gp i v o => match c i with
    | some _ => .ptr i o
    | none => .gp i v o
  | .agg cs => .agg (stlL c cs)
  | .tup cs => .tup (stlL c cs)
  | .clo f a b => .clo f (stlL c a) (stlL c b)
  | v => v
def stlL (c : Nat → Option Nat) : List V → List V
  | [] => []
  | v :: vs => v.stl c :: stlL c vs
end
mutual
def V.cur (c : Nat → Option Nat) : V → Prop
  | .gs i v _ _ => ∀ u, c i = some u → u = v
  | .gp i v _ => ∀ u, c i = some u → u = v
  | .agg cs => curL c cs
  | .tup cs => curL c cs
  | .clo _ a b => curL c a ∧ curL c b
  | _ => True
def curL (c : Nat → Option Nat) : List V → Prop
  | [] => True
  | v :: vs => v.cur c ∧ curL c vs
end
theorem stlL_get (c : Nat → Option Nat) : ∀ (l : List V) (j : Nat), (stlL c l)[j]? = (l[j]?).map (V.stl c)
  | [], j => by simp [stlL]
  | v :: l, 0 => by simp [stlL]
  | v :: l, j + 1 => by simp [stlL, stlL_get c l j]
theorem curL_get (c : Nat → Option Nat) : ∀ (l : List V) (j : Nat) (v : V), curL c l → l[j]? = some v → v.cur c
  | [], j, v, _, h => by simp at h
  | u :: l, 0, v, hc, h => by simp at h; subst h; exact hc.1
  | u :: l, j + 1, v, hc, h => curL_get c l j v hc.2 (by simpa using h)
def stlP (c : Option Nat) (p : Pl) : Pl :=
  match c with
  | some _ => ⟨p.1, p.2, p.3, 0⟩
  | none => p
section
variable {n : Nat} {g : Nat → Pl} {c : Nat → Option Nat}
mutual
theorem Rv_stl (hc : ∀ i u, c i = some u → (g i).4 = u + 1) : ∀ (v : V) {x : Value}, v.cur c → Rv n g v x → Rv n (fun i => stlP (c i) (g i)) (v.stl c) x
  | .bool b, x, _, h => h
  | .int _ _, x, _, h => h
  | .fl o, x, _, h => h
  | .raw v, x, _, h => h
  | .any, x, _, h => h
  | .ptr i off, x, _, h => by
    simp only [V.stl, Rv] at *
    cases hi : c i with
    | none => simpa [stlP, hi] using h
    | some u => have := hc i u hi; omega
  | .sl i off len, x, _, h => by
    simp only [V.stl, Rv] at *
    cases hi : c i with
    | none => simpa [stlP, hi] using h
    | some u => have := hc i u hi; omega
  | .mp i, x, _, h => by
    simp only [V.stl, Rv] at *
    cases hi : c i with
    | none => simpa [stlP, hi] using h
    | some u => have := hc i u hi; omega
  | .sk i off len k, x, _, h => by
    simp only [V.stl, Rv] at *
    cases hi : c i with
    | none => simpa [stlP, hi] using h
    | some u => have := hc i u hi; omega
  | .gp i v off, x, hv, h => by
    simp only [V.cur] at hv
    cases hi : c i with
    | none => simp only [V.stl, hi, Rv] at *; simpa [stlP, hi] using h
    | some u =>
      have h1 := hc i u hi
      have h2 := hv u hi
      subst h2
      simp only [V.stl, hi, Rv] at *
      obtain ⟨e1, e2, a, e3, e4⟩ := h
      simp only [stlP]
      exact ⟨e1, trivial, by rw [e3, e4 h1.symm]⟩
  | .gs i v e len, x, hv, h => by
    simp only [V.cur] at hv
    cases hi : c i with
    | none => simp only [V.stl, hi, Rv] at *; simpa [stlP, hi] using h
    | some u =>
      have h1 := hc i u hi
      have h2 := hv u hi
      subst h2
      simp only [V.stl, hi, Rv] at *
      obtain ⟨e1, e2, a, k, e3, e5, e4⟩ := h
      simp only [stlP]
      exact ⟨e1, trivial, some a, k, e3, e5, fun _ => by rw [(e4 h1.symm).1]; rfl⟩
  | .agg cs, x, hv, h => by
    simp only [V.stl, V.cur, Rv] at *
    obtain ⟨xs, h1, h2⟩ := h
    exact ⟨xs, h1, Rvs_stl hc cs hv h2⟩
  | .tup cs, x, hv, h => by
    simp only [V.stl, V.cur, Rv] at *
    obtain ⟨xs, h1, h2⟩ := h
    exact ⟨xs, h1, Rvs_stl hc cs hv h2⟩
  | .clo fn a b, x, hv, h => by
    simp only [V.stl, V.cur, Rv] at *
    obtain ⟨xs, ys, h1, h2, h3⟩ := h
    exact ⟨xs, ys, h1, Rvs_stl hc a hv.1 h2, Rvs_stl hc b hv.2 h3⟩
theorem Rvs_stl (hc : ∀ i u, c i = some u → (g i).4 = u + 1) : ∀ (vs : List V) {xs : List Value}, curL c vs → Rvs n g vs xs → Rvs n (fun i => stlP (c i) (g i)) (stlL c vs) xs
  | [], xs, _, h => h
  | v :: vs, xs, hv, h => by
    simp only [stlL, curL, Rvs] at *
    obtain ⟨y, ys, h1, h2, h3⟩ := h
    exact ⟨y, ys, h1, Rv_stl hc v hv.1 h2, Rvs_stl hc vs hv.2 h3⟩
end
mutual
theorem V.stl_old {k : Nat} (hc : ∀ i, i < k → c i = none) : ∀ v : V, v.sc k = true → v.stl c = v ∧ v.cur c
  | .bool b, _ => ⟨rfl, trivial⟩
  | .int _ _, _ => ⟨rfl, trivial⟩
  | .fl o, _ => ⟨rfl, trivial⟩
  | .raw v, _ => ⟨rfl, trivial⟩
  | .any, _ => ⟨rfl, trivial⟩
  | .ptr i off, _ => ⟨rfl, trivial⟩
  | .sl i off len, _ => ⟨rfl, trivial⟩
  | .mp i, _ => ⟨rfl, trivial⟩
  | .sk i off len k, _ => ⟨rfl, trivial⟩
  | .gp i v off, h => by
    have hi : i < k := by simpa [V.sc] using h
    exact ⟨by simp only [V.stl, hc i hi], fun u hu => by rw [hc i hi] at hu; exact nomatch hu⟩
  | .gs i v e len, h => by
    have hi : i < k := by simpa [V.sc] using h
    exact ⟨by simp only [V.stl, hc i hi], fun u hu => by rw [hc i hi] at hu; exact nomatch hu⟩
  | .agg cs, h => by
    obtain ⟨h1, h2⟩ := stlL_old hc cs h
    exact ⟨by simp only [V.stl, h1], h2⟩
  | .tup cs, h => by
    obtain ⟨h1, h2⟩ := stlL_old hc cs h
    exact ⟨by simp only [V.stl, h1], h2⟩
  | .clo fn a b, h => by
    simp only [V.sc, Bool.and_eq_true] at h
    obtain ⟨h1, h2⟩ := stlL_old hc a h.1
    obtain ⟨h3, h4⟩ := stlL_old hc b h.2
    exact ⟨by simp only [V.stl, h1, h3], h2, h4⟩
theorem stlL_old {k : Nat} (hc : ∀ i, i < k → c i = none) : ∀ vs : List V, scL k vs = true → stlL c vs = vs ∧ curL c vs
  | [], _ => ⟨rfl, trivial⟩
  | v :: vs, h => by
    simp only [scL, Bool.and_eq_true] at h
    obtain ⟨h1, h2⟩ := V.stl_old hc v h.1
    obtain ⟨h3, h4⟩ := stlL_old hc vs h.2
    exact ⟨by simp only [stlL, h1, h3], h2, h4⟩
end
end
/-- What a block has become: a row that grows no more is a plain row, cells are settled; it may be closed to writing, or forgotten. -/
inductive StlB (c : Nat → Option Nat) (i : Nat) : Blk → Blk → Prop
  | ints {w w' : Bool} {v : Nat} {k : IntKind} {l : List Int} (h : c i = some v) (hw : w' = true → w = true) : StlB c i ⟨w, .gints v k l⟩ ⟨w', .ints k l⟩
  | flts {w w' : Bool} {v : Nat} {l : List Nat} (h : c i = some v) (hw : w' = true → w = true) : StlB c i ⟨w, .gflts v l⟩ ⟨w', .flts l⟩
  | cells {w w' : Bool} {v : Nat} {l l' : List V} (h : c i = some v) (hw : w' = true → w = true) (hl : curL c l) (e : l' = stlL c l) : StlB c i ⟨w, .gcells v l⟩ ⟨w', .cells l'⟩
  | row {w w' : Bool} {l l' : List V} (h : c i = none) (hw : w' = true → w = true) (hl : curL c l) (e : l' = stlL c l) : StlB c i ⟨w, .cells l⟩ ⟨w', .cells l'⟩
  | same {w w' : Bool} {b : B} (h : c i = none) (hw : w' = true → w = true) (hb : ∀ j v, b.get j = some v → v.stl c = v ∧ v.cur c) : StlB c i ⟨w, b⟩ ⟨w', b⟩
  | gone {b : Blk} (h : c i = none ∨ ∃ v, c i = some v ∧ b.b.vof = v + 1) : b.b.vof = 0 ∨ (∃ v, c i = some v ∧ b.b.vof = v + 1) → StlB c i b ⟨false, .dead⟩
theorem StlB.w {c : Nat → Option Nat} {i : Nat} {b b' : Blk} (h : StlB c i b b') : (b'.w = true → b.w = true) ∧ (b'.b.live = true → b.b.live = true) := by
  cases h with
  | ints h hw => exact ⟨hw, fun _ => rfl⟩
  | flts h hw => exact ⟨hw, fun _ => rfl⟩
  | cells h hw hl e => exact ⟨hw, fun _ => rfl⟩
  | row h hw hl e => exact ⟨hw, fun _ => rfl⟩
  | same h hw hb => exact ⟨hw, fun h => h⟩
  | gone h => exact ⟨(fun h => nomatch h), (fun h => nomatch h)⟩
theorem StlB.ver {c : Nat → Option Nat} {i : Nat} {b b' : Blk} (h : StlB c i b b') : (∀ u, c i = some u → b.b.vof = u + 1) ∧ b'.b.vof = (match c i with | some _ => 0 | none => b.b.vof) := by
  cases h with
  | ints h hw => exact ⟨fun u hu => by rw [h] at hu; cases hu; rfl, by rw [h]; rfl⟩
  | flts h hw => exact ⟨fun u hu => by rw [h] at hu; cases hu; rfl, by rw [h]; rfl⟩
  | cells h hw hl e => exact ⟨fun u hu => by rw [h] at hu; cases hu; rfl, by rw [h]; rfl⟩
  | row h hw hl e => exact ⟨fun u hu => absurd hu (by rw [h]; simp), by rw [h]; rfl⟩
  | same h hw hb => exact ⟨fun u hu => absurd hu (by rw [h]; simp), by rw [h]⟩
  | gone h h' =>
    rcases h with h | ⟨v, h, h1⟩
    · refine ⟨fun u hu => absurd hu (by rw [h]; simp), ?_⟩
      rw [h]
      rcases h' with h' | ⟨v, h', _⟩
      · exact h'.symm
      · rw [h] at h'; exact nomatch h'
    · exact ⟨fun u hu => by rw [h] at hu; cases hu; exact h1, by rw [h]; rfl⟩
theorem StlB.cell {c : Nat → Option Nat} {i : Nat} {b b' : Blk} (h : StlB c i b b') (j : Nat) (v : V) (hv : b'.b.get j = some v) : ∃ u, b.b.get j = some u ∧ v = u.stl c ∧ u.cur c := by
  cases h with
  | ints h hw =>
    have hv : ((‹List Int›)[j]?).map (V.int _) = some v := hv
    refine ⟨v, hv, ?_⟩
    simp only [Option.map_eq_some_iff] at hv
    obtain ⟨_, _, rfl⟩ := hv
    exact ⟨rfl, trivial⟩
  | flts h hw =>
    have hv : ((‹List Nat›)[j]?).map (fun b => V.fl (some b)) = some v := hv
    refine ⟨v, hv, ?_⟩
    simp only [Option.map_eq_some_iff] at hv
    obtain ⟨_, _, rfl⟩ := hv
    exact ⟨rfl, trivial⟩
  | @cells _ _ _ l l' h hw hl e =>
    subst e
    have hv : (stlL c l)[j]? = some v := hv
    rw [stlL_get] at hv
    cases hu : l[j]? with
    | none => rw [hu] at hv; exact nomatch hv
    | some u => rw [hu] at hv; cases hv; exact ⟨u, hu, rfl, curL_get c l j u hl hu⟩
  | @row _ _ l l' h hw hl e =>
    subst e
    have hv : (stlL c l)[j]? = some v := hv
    rw [stlL_get] at hv
    cases hu : l[j]? with
    | none => rw [hu] at hv; exact nomatch hv
    | some u => rw [hu] at hv; cases hv; exact ⟨u, hu, rfl, curL_get c l j u hl hu⟩
  | same h hw hb =>
    obtain ⟨h1, h2⟩ := hb j v hv
    exact ⟨v, hv, h1.symm, h2⟩
  | gone h => exact nomatch hv
theorem StlB.map {c : Nat → Option Nat} {i : Nat} {b b' : Blk} (h : StlB c i b b') (f : Int → Int → Option Int) (hf : b'.b = .mpI f) : b.b = .mpI f := by
  cases h with
  | same h hw hb => exact hf
  | _ => exact nomatch hf
/-- The blocks that a call has made, looked at anew. -/
def AllStl (c : Nat → Option Nat) : Nat → List Blk → List Blk → Prop
  | _, [], [] => True
  | k, b :: m, b' :: m' => StlB c k b b' ∧ AllStl c (k + 1) m m'
  | _, _, _ => False
theorem AllStl.get {c : Nat → Option Nat} : ∀ {m m' : List Blk} {k : Nat}, AllStl c k m m' → m'.length = m.length ∧ ∀ i b', m'[i]? = some b' → ∃ b, m[i]? = some b ∧ StlB c (k + i) b b'
  | [], [], k, _ => ⟨rfl, fun i b' h => by simp at h⟩
  | [], _ :: _, k, h => h.elim
  | _ :: _, [], k, h => h.elim
  | b :: m, b' :: m', k, h => by
    obtain ⟨h1, h2⟩ := AllStl.get h.2
    refine ⟨by simp [h1], fun i d hd => ?_⟩
    cases i with
    | zero => simp at hd; subst hd; exact ⟨b, rfl, h.1⟩
    | succ i =>
      obtain ⟨d0, h3, h4⟩ := h2 i d (by simpa using hd)
      exact ⟨d0, by simpa using h3, by rw [show k + (i + 1) = k + 1 + i by omega]; exact h4⟩
theorem COk.settle {P : Program} {ng : Nat} {f : FuncId} {args : List V} {m N N' : List Blk} {r : V} (c : Nat → Option Nat) (h : COk P ng f args m r (m ++ N)) (hc : ∀ i, i < m.length → c i = none) (hbig : ∀ i, m.length + N.length ≤ i → c i = none) (hr : r.cur c) (hN : AllStl c m.length N N') :
    COk P ng f args m (r.stl c) (m ++ N') := by
  rw [COk_iff] at *
  intro g w xs hg R hx
  refine (h g w xs hg R hx).mono ?_
  rintro x w' ⟨g1, k1, k2, k3⟩
  obtain ⟨hlen, hget⟩ := hN.get
  have hL : (m ++ N').length = (m ++ N).length := by simp [hlen]
  have hold : ∀ (i : Nat) b, m[i]? = some b → ∀ j v, b.b.get j = some v → v.stl c = v ∧ v.cur c := by
    intro i b hb j v hv
    obtain ⟨y, _, hr⟩ := (R.blk i b hb).cell j v hv
    exact V.stl_old hc v (Rv_sc v hr)
  have hblk : ∀ i b', (m ++ N')[i]? = some b' → ∃ b, (m ++ N)[i]? = some b ∧ StlB c i b b' := by
    intro i b' hb'
    rcases Nat.lt_or_ge i m.length with hi | hi
    · rw [List.getElem?_append_left hi] at hb' ⊢
      obtain ⟨w0, b0⟩ := b'
      exact ⟨_, hb', .same (hc i hi) (fun h => h) (hold i _ hb')⟩
    · rw [List.getElem?_append_right hi] at hb' ⊢
      obtain ⟨b, h1, h2⟩ := hget _ _ hb'
      exact ⟨b, h1, by rw [show m.length + (i - m.length) = i by omega] at h2; exact h2⟩
  have hcv : ∀ i u, c i = some u → (g1 i).4 = u + 1 := by
    intro i u hu
    have hi : i < (m ++ N').length := by
      rcases Nat.lt_or_ge i (m.length + N.length) with h1 | h1
      · simp [hlen]; omega
      · rw [hbig i h1] at hu; exact nomatch hu
    obtain ⟨b, h1, h2⟩ := hblk i _ (List.getElem?_eq_getElem hi)
    rw [← (k2.blk i b h1).ver]
    exact h2.ver.1 u hu
  have hpl : ∀ i, (stlP (c i) (g1 i)).1 = (g1 i).1 ∧ (stlP (c i) (g1 i)).2 = (g1 i).2 ∧ (stlP (c i) (g1 i)).3 = (g1 i).3 := by
    intro i; cases c i <;> exact ⟨rfl, rfl, rfl⟩
  refine ⟨fun i => stlP (c i) (g1 i), by rw [hL]; exact Rv_stl hcv r hr k1, ⟨fun i b' hb' => ?_, fun i j b' d' hij hb' hd' hw hl hl' => ?_⟩, ⟨by simp, fun i hi => ?_, k3.os, k3.tape, k3.output, k3.size, k3.same, fun p hp hf => ?_⟩⟩
  · obtain ⟨b, hb, hs⟩ := hblk i b' hb'
    have R1 := k2.blk i b hb
    obtain ⟨p1, p2, p3⟩ := hpl i
    refine ⟨by rw [p1]; exact R1.size, fun j v hv => ?_, fun hw hl j => by rw [p1]; exact R1.free (hs.w.1 hw) (hs.w.2 hl) j, fun hl j hj => ?_, fun f hf => by rw [p1]; exact R1.map f (hs.map f hf), ?_⟩
    · obtain ⟨u, h1, rfl, h3⟩ := hs.cell j v hv
      obtain ⟨y, h4, h5⟩ := R1.cell j u h1
      exact ⟨y, by rw [p1, p2]; exact h4, by rw [hL]; exact Rv_stl hcv u h3 h5⟩
    · rw [p3] at hj
      rw [p1, p2]
      exact R1.room (hs.w.2 hl) j hj
    · rw [hs.ver.2]
      cases hci : c i with
      | none => exact R1.ver
      | some u => rfl
  · obtain ⟨b, hb, hs⟩ := hblk i b' hb'
    obtain ⟨d, hd, hs'⟩ := hblk j d' hd'
    show (stlP (c i) (g1 i)).1 ≠ (stlP (c j) (g1 j)).1
    rw [(hpl i).1, (hpl j).1]
    exact k2.apart i j b d hij hb hd (hs.w.1 hw) (hs.w.2 hl) (hs'.w.2 hl')
  · have e : ∀ N : List Blk, getB (m ++ N) i = getB m i := by
      intro N
      rw [getB_eq, getB_eq, List.getD_eq_getElem?_getD, List.getD_eq_getElem?_getD, List.getElem?_append_left hi]
    have := k3.agree i hi
    rw [e] at this ⊢
    simp only [hc i hi, stlP]
    exact this
  · obtain ⟨i, b', hb', hw, he⟩ := hf
    obtain ⟨b, hb, hs⟩ := hblk i b' hb'
    have he : (stlP (c i) (g1 i)).1 = p := he
    rw [(hpl i).1] at he
    exact k3.foot p hp ⟨i, b, hb, hs.w.1 hw, he⟩
end Go.Eng
/- The engine: a contract for rows that do not grow, asked of rows that do, where nothing is written; memory with a block more of which nobody knows; slices that may be none. No condition. -/
namespace Go.Eng
open Go
set_option linter.unusedSimpArgs false
set_option linter.unusedVariables false

theorem COk.ro {P : Program} {ng : Nat} {f : FuncId} {args : List V} {m m' : List Blk} {r : V} (c : Nat → Option Nat) (h : COk P ng f (stlL c args) m' r m') (hcur : curL c args) (hN : AllStl c 0 m m')
    (hbig : ∀ i, m.length ≤ i → c i = none) (hng : ∀ i, i < ng → c i = none) (hro : roM m' = true) (hr : r.sc 0 = true) : COk P ng f args m r m := by
  rw [COk_iff] at *
  intro g w xs hg R hx
  obtain ⟨hlen, hget⟩ := hN.get
  have hblk : ∀ i b', m'[i]? = some b' → ∃ b, m[i]? = some b ∧ StlB c i b b' := fun i b' hb' => by
    obtain ⟨b, h1, h2⟩ := hget i b' hb'
    exact ⟨b, h1, by rwa [Nat.zero_add] at h2⟩
  have hcv : ∀ i u, c i = some u → (g i).4 = u + 1 := by
    intro i u hu
    have hi : i < m'.length := by
      rcases Nat.lt_or_ge i m.length with h1 | h1
      · omega
      · rw [hbig i h1] at hu; exact nomatch hu
    obtain ⟨b, h1, h2⟩ := hblk i _ (List.getElem?_eq_getElem hi)
    rw [← (R.blk i b h1).ver]
    exact h2.ver.1 u hu
  have hpl : ∀ i, (stlP (c i) (g i)).1 = (g i).1 ∧ (stlP (c i) (g i)).2 = (g i).2 ∧ (stlP (c i) (g i)).3 = (g i).3 := by
    intro i; cases c i <;> exact ⟨rfl, rfl, rfl⟩
  have R' : Rep (fun i => stlP (c i) (g i)) m' w := by
    refine ⟨fun i b' hb' => ?_, fun i j b' d' hij hb' hd' hw hl hl' => ?_⟩
    · obtain ⟨b, hb, hs⟩ := hblk i b' hb'
      have R1 := R.blk i b hb
      obtain ⟨p1, p2, p3⟩ := hpl i
      refine ⟨by rw [p1]; exact R1.size, fun j v hv => ?_, fun hw hl j => by rw [p1]; exact R1.free (hs.w.1 hw) (hs.w.2 hl) j, fun hl j hj => ?_, fun f hf => by rw [p1]; exact R1.map f (hs.map f hf), ?_⟩
      · obtain ⟨u, h1, rfl, h3⟩ := hs.cell j v hv
        obtain ⟨y, h4, h5⟩ := R1.cell j u h1
        exact ⟨y, by rw [p1, p2]; exact h4, by rw [hlen]; exact Rv_stl hcv u h3 h5⟩
      · rw [p3] at hj
        rw [p1, p2]
        exact R1.room (hs.w.2 hl) j hj
      · rw [hs.ver.2]
        cases hci : c i with
        | none => exact R1.ver
        | some u => rfl
    · rw [roM_get hro hb'] at hw; cases hw
  refine (h _ w xs ⟨by rw [hlen]; exact hg.1, fun i hi => by show stlP (c i) (g i) = _; rw [hng i hi]; exact hg.2 i hi⟩ R' (by rw [hlen]; exact Rvs_stl hcv args hcur hx)).mono ?_
  rintro x w' ⟨g1, k1, k2, k3⟩
  have hsame : ∀ p, p < w.heap.size → w'.heap[p]? = w.heap[p]? := fun p hp => k3.same p hp (by
    rintro ⟨i, b, hb, hw, _⟩
    rw [roM_get hro hb] at hw; cases hw)
  exact ⟨g, Rv_mono (Nat.zero_le _) (fun i hi => absurd hi (Nat.not_lt_zero i)) r (Rv_shrink r hr k1), ⟨fun i b hb => (R.blk i b hb).congr (hsame _ (R.blk i b hb).size) (Nat.le_refl _) (fun i _ => .inl rfl), R.apart⟩,
    ⟨Nat.le_refl _, fun i hi => ⟨Nat.le_refl _, .inl rfl⟩, k3.os, k3.tape, k3.output, k3.size, fun p hp _ => hsame p hp, fun p hp h => h⟩⟩
theorem shutM_ro : ∀ m : List Blk, roM (shutM m) = true
  | [] => rfl
  | _ :: m => by simp [shutM, roM, shutM_ro m]
theorem shutM_sc (n : Nat) : ∀ m : List Blk, scM n m = true → scM n (shutM m) = true
  | [], _ => rfl
  | b :: m, h => by
    simp only [scM, shutM, Bool.and_eq_true] at *
    exact ⟨h.1, shutM_sc n m h.2⟩
theorem AllStl.app {c : Nat → Option Nat} : ∀ {m l m' l' : List Blk} {k : Nat}, AllStl c k m m' → AllStl c (k + m.length) l l' → AllStl c k (m ++ l) (m' ++ l')
  | [], l, [], l', k, _, h => h
  | [], _, _ :: _, _, k, h, _ => h.elim
  | _ :: _, _, [], _, k, h, _ => h.elim
  | b :: m, l, b' :: m', l', k, h, h' => ⟨h.1, AllStl.app h.2 (by rwa [show k + 1 + m.length = k + (b :: m).length by simp; omega])⟩
theorem AllStl.shut {c : Nat → Option Nat} {n : Nat} (hc : ∀ i, i < n → c i = none) : ∀ (m : List Blk) (k : Nat), k + m.length ≤ n → (∀ (i : Nat) b, m[i]? = some b → ∀ (j : Nat) v, b.b.get j = some v → v.sc n = true) → AllStl c k m (shutM m)
  | [], k, _, _ => trivial
  | b :: m, k, hk, hs => by
    refine ⟨.same (b := b.b) (w := b.w) (hc k (by simp at hk; omega)) (fun h => nomatch h) (fun j v hv => V.stl_old hc v (hs 0 b rfl j v hv)), AllStl.shut hc m (k + 1) (by simp at hk ⊢; omega) (fun i d hd j v hv => hs (i + 1) d (by simpa using hd) j v hv)⟩
theorem AllStl.keep {c : Nat → Option Nat} {n : Nat} (hc : ∀ i, i < n → c i = none) : ∀ (m : List Blk) (k : Nat), (∀ i, k ≤ i → i < k + m.length → c i = none) → scM n m = true → AllStl c k m m
  | [], k, _, _ => trivial
  | b :: m, k, hk, hs => by
    simp only [scM, Bool.and_eq_true] at hs
    exact ⟨.same (b := b.b) (w := b.w) (hk k (Nat.le_refl _) (by simp only [List.length_cons]; omega)) (fun h => h) (fun j v hv => V.stl_old hc v (B.sc_get hs.1 hv)), AllStl.keep hc m (k + 1) (fun i h1 h2 => hk i (by omega) (by simp only [List.length_cons]; omega)) hs.2⟩
theorem nums_Rv {b : B} (hnum : b.nums = true) {j : Nat} {u : V} {y : Value} (hu : b.get j = some u) {n n' : Nat} {G G' : Nat → Pl} (h : Rv n G u y) : Rv n' G' u y := by
  cases b <;> first
    | (cases hnum; done)
    | (simp only [B.get, Option.map_eq_some_iff] at hu; obtain ⟨_, _, rfl⟩ := hu; simpa [Rv] using h)
/-- A new row that the caller gets, ahead of which lies what nobody knows any more. -/
theorem COk.drop1 {P : Program} {ng : Nat} {f : FuncId} {args : List V} {m : List Blk} {d b : Blk} {n : Nat} (h : COk P ng f args m (.sl (m.length + 1) 0 n) (m ++ [d, b])) (hb : b.b.nums = true) : COk P ng f args m (.sl m.length 0 n) (m ++ [b]) := by
  rw [COk_iff] at *
  intro g w xs hg R hx
  refine (h g w xs hg R hx).mono ?_
  rintro x w' ⟨g1, k1, k2, k3⟩
  obtain ⟨G, hat, hG⟩ : ∃ G : Nat → Pl, (∀ i, i < m.length → G i = g1 i) ∧ G m.length = g1 (m.length + 1) := ⟨fun i => if i = m.length then g1 (m.length + 1) else g1 i, fun i hi => if_neg (by omega), if_pos rfl⟩
  have hsplit : ∀ (i : Nat) (c : Blk), (m ++ [b])[i]? = some c → (i < m.length ∧ m[i]? = some c) ∨ (i = m.length ∧ c = b) := fun i c hc => snoc_get hc
  have up : ∀ (i : Nat) (c : Blk), i < m.length → m[i]? = some c → (m ++ [d, b])[i]? = some c := fun i c hi hc => by rw [List.getElem?_append_left hi]; exact hc
  have top : (m ++ [d, b])[m.length + 1]? = some b := by rw [List.getElem?_append_right (by omega)]; simp
  have hsc : ∀ (i : Nat) (c : Blk), m[i]? = some c → ∀ (j : Nat) (v : V), c.b.get j = some v → v.sc m.length = true := fun i c hc j v hv => by
    obtain ⟨y, _, hr⟩ := (R.blk i c hc).cell j v hv
    exact Rv_sc v hr
  simp only [Rv] at k1
  refine ⟨G, ?_, ⟨fun i c hc => ?_, fun i j c e hij hc he hw hl hl' => ?_⟩, ⟨by simp, fun i hi => ?_, k3.os, k3.tape, k3.output, k3.size, k3.same, fun p hp hf => ?_⟩⟩
  · simp only [Rv]
    rw [hG]
    exact ⟨by simp, k1.2⟩
  · rcases hsplit i c hc with ⟨hi, hc⟩ | ⟨rfl, rfl⟩
    · have R1 := k2.blk i c (up i c hi hc)
      rw [hat i hi]
      refine ⟨R1.size, fun j v hv => ?_, R1.free, R1.room, R1.map, R1.ver⟩
      obtain ⟨y, h1, h2⟩ := R1.cell j v hv
      exact ⟨y, h1, Rv_mono (by simp) hat v (Rv_shrink v (hsc i c hc j v hv) h2)⟩
    · have R1 := k2.blk _ _ top
      rw [hG]
      refine ⟨R1.size, fun j v hv => ?_, R1.free, R1.room, R1.map, R1.ver⟩
      obtain ⟨y, h1, h2⟩ := R1.cell j v hv
      exact ⟨y, h1, nums_Rv hb hv h2⟩
  · rcases hsplit i c hc with ⟨hi, hc'⟩ | ⟨hi, rfl⟩
    · rcases hsplit j e he with ⟨hj, he'⟩ | ⟨hj, rfl⟩
      · rw [hat i hi, hat j hj]
        exact k2.apart i j c e hij (up i c hi hc') (up j e hj he') hw hl hl'
      · subst hj
        rw [hat i hi, hG]
        exact k2.apart i (m.length + 1) c _ (by omega) (up i c hi hc') top hw hl hl'
    · subst hi
      rcases hsplit j e he with ⟨hj, he'⟩ | ⟨hj, rfl⟩
      · rw [hat j hj, hG]
        exact k2.apart (m.length + 1) j _ e (by omega) top (up j e hj he') hw hl hl'
      · exact absurd hj.symm hij
  · have hi' : i < m.length := hi
    have e : ∀ l, getB (m ++ l) i = getB m i := fun l => by
      rw [getB_eq, getB_eq, List.getD_eq_getElem?_getD, List.getD_eq_getElem?_getD, List.getElem?_append_left hi']
    have := k3.agree i hi
    rw [e] at this ⊢
    rw [hat i hi']
    exact this
  · obtain ⟨i, c, hc, hw, he⟩ := hf
    rcases hsplit i c hc with ⟨hi, hc⟩ | ⟨rfl, rfl⟩
    · rw [hat i hi] at he
      exact k3.foot p hp ⟨i, c, up i c hi hc, hw, he⟩
    · rw [hG] at he
      exact k3.foot p hp ⟨m.length + 1, _, top, hw, he⟩
theorem scM_of_app {k : Nat} : ∀ {l r : List Blk}, scM k (l ++ r) = true → scM k l = true ∧ scM k r = true
  | [], r, h => ⟨rfl, h⟩
  | b :: l, r, h => by
    simp only [scM, List.cons_append, Bool.and_eq_true] at *
    obtain ⟨h1, h2⟩ := scM_of_app h.2
    exact ⟨⟨h.1, h1⟩, h2⟩
end Go.Eng
