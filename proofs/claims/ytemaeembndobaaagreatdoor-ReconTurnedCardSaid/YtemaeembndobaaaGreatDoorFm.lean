/- Points that lie apart: their parts, and the differences of these. No condition. -/
import Derived.Test.YtemaeembndobaaaGreatDoorFg
import Derived.Test.YtemaeembndobaaaGreatDoorZa
namespace Go.Proofs.YtemaeembndobaaaGreatDoor
open Go Go.Eng
set_option maxRecDepth 100000
set_option linter.unusedSimpArgs false
set_option linter.unusedVariables false

theorem mulb {x y p q : Rat} (h1 : -p ≤ x) (h2 : x ≤ p) (h3 : -q ≤ y) (h4 : y ≤ q) : -(p * q) ≤ x * y ∧ x * y ≤ p * q := by
  have a1 := Rat.mul_nonneg (show 0 ≤ p - x by grind) (show 0 ≤ q + y by grind)
  have a2 := Rat.mul_nonneg (show 0 ≤ p + x by grind) (show 0 ≤ q - y by grind)
  have a3 := Rat.mul_nonneg (show 0 ≤ p - x by grind) (show 0 ≤ q - y by grind)
  have a4 := Rat.mul_nonneg (show 0 ≤ p + x by grind) (show 0 ≤ q + y by grind)
  constructor <;> grind
abbrev eta : Rat := 1 / 1099511627776
abbrev del : Rat := 1 / 1048576
/-- Two directions that are not one keep apart. -/
theorem sep {a1 a2 b1 b2 : Int} {x1 x2 y1 y2 l r n : Rat} (ha1 : a1.natAbs ≤ 32) (ha2 : a2.natAbs ≤ 32) (hb1 : b1.natAbs ≤ 32) (hb2 : b2.natAbs ≤ 32) (hne : a1 * b2 ≠ a2 * b1)
    (hl : 0 ≤ l ∧ l ≤ 2) (hr : 0 ≤ r ∧ r ≤ 2) (hn : 0 ≤ n ∧ n ≤ 32) (hx1 : -3 ≤ x1 ∧ x1 ≤ 3) (hx2 : -3 ≤ x2 ∧ x2 ≤ 3)
    (e1 : -eta ≤ x1 * l * n - a1 ∧ x1 * l * n - a1 ≤ eta) (e2 : -eta ≤ x2 * l * n - a2 ∧ x2 * l * n - a2 ≤ eta)
    (f1 : -eta ≤ y1 * r * n - b1 ∧ y1 * r * n - b1 ≤ eta) (f2 : -eta ≤ y2 * r * n - b2 ∧ y2 * r * n - b2 ≤ eta)
    (h1 : -del ≤ y1 - x1 ∧ y1 - x1 ≤ del) (h2 : -del ≤ y2 - x2 ∧ y2 - x2 ≤ del) : False := by
  have ib : ∀ z : Int, z.natAbs ≤ 32 → -(32 : Rat) ≤ (z : Rat) ∧ (z : Rat) ≤ 32 := by
    intro z hz
    have h1 : (-32 : Int) ≤ z := by omega
    have h2 : z ≤ 32 := by omega
    have e1 := Rat.intCast_le_intCast.2 h1
    have e2 := Rat.intCast_le_intCast.2 h2
    rw [show ((-32 : Int) : Rat) = -32 from rfl] at e1
    exact ⟨e1, e2⟩
  have A1 := ib a1 ha1
  have A2 := ib a2 ha2
  have B1 := ib b1 hb1
  have B2 := ib b2 hb2
  have hint : (a1 : Rat) * b2 - a2 * b1 ≤ -1 ∨ 1 ≤ (a1 : Rat) * b2 - a2 * b1 := by
    have e : (a1 : Rat) * b2 - a2 * b1 = ((a1 * b2 - a2 * b1 : Int) : Rat) := by
      rw [Rat.intCast_sub, Rat.intCast_mul, Rat.intCast_mul]
    rw [e]
    generalize a1 * b2 = p at *
    generalize a2 * b1 = q at *
    rcases (by omega : p - q ≤ -1 ∨ 1 ≤ p - q) with h | h
    · left
      have e1 := Rat.intCast_le_intCast.2 h
      rwa [show ((-1 : Int) : Rat) = -1 from rfl] at e1
    · right
      have e1 := Rat.intCast_le_intCast.2 h
      rwa [show ((1 : Int) : Rat) = 1 from rfl] at e1
  generalize (a1 : Rat) = A at *
  generalize (a2 : Rat) = B at *
  generalize (b1 : Rat) = C at *
  generalize (b2 : Rat) = D at *
  -- the same product in two ways
  obtain ⟨E1, hE1⟩ : ∃ e, x1 * l * n = A + e := ⟨x1 * l * n - A, by grind⟩
  obtain ⟨E2, hE2⟩ : ∃ e, x2 * l * n = B + e := ⟨x2 * l * n - B, by grind⟩
  obtain ⟨F1, hF1⟩ : ∃ e, y1 * r * n = C + e := ⟨y1 * r * n - C, by grind⟩
  obtain ⟨F2, hF2⟩ : ∃ e, y2 * r * n = D + e := ⟨y2 * r * n - D, by grind⟩
  rw [hE1] at e1
  rw [hE2] at e2
  rw [hF1] at f1
  rw [hF2] at f2
  have g1 : -eta ≤ E1 ∧ E1 ≤ eta := by constructor <;> grind
  have g2 : -eta ≤ E2 ∧ E2 ≤ eta := by constructor <;> grind
  have g3 : -eta ≤ F1 ∧ F1 ≤ eta := by constructor <;> grind
  have g4 : -eta ≤ F2 ∧ F2 ≤ eta := by constructor <;> grind
  have k1 := mulb A1.1 A1.2 g4.1 g4.2
  have k2 := mulb g1.1 g1.2 B2.1 B2.2
  have k3 := mulb g1.1 g1.2 g4.1 g4.2
  have k4 := mulb A2.1 A2.2 g3.1 g3.2
  have k5 := mulb g2.1 g2.2 B1.1 B1.2
  have k6 := mulb g2.1 g2.2 g3.1 g3.2
  have m1 := mulb hx1.1 hx1.2 h2.1 h2.2
  have m2 := mulb hx2.1 hx2.2 h1.1 h1.2
  have m3 := mulb (show -(2 : Rat) ≤ l by grind) hl.2 (show -(2 : Rat) ≤ r by grind) hr.2
  have m4 := mulb (show -(32 : Rat) ≤ n by grind) hn.2 (show -(32 : Rat) ≤ n by grind) hn.2
  have m5 := mulb (p := 4) (q := 1024) (by grind) (by grind) (by grind) (by grind) (x := l * r) (y := n * n)
  have m6 := mulb (p := 6 * del) (q := 4096) (by grind) (by grind) (by grind) (by grind) (x := x1 * (y2 - x2) - x2 * (y1 - x1)) (y := (l * r) * (n * n))
  have key : (x1 * (y2 - x2) - x2 * (y1 - x1)) * ((l * r) * (n * n)) = (x1 * l * n) * (y2 * r * n) - (x2 * l * n) * (y1 * r * n) := by grind
  rw [key, hE1, hE2, hF1, hF2] at m6
  have big : -(1 / 4 : Rat) ≤ (A + E1) * (D + F2) - (B + E2) * (C + F1) ∧ (A + E1) * (D + F2) - (B + E2) * (C + F1) ≤ 1 / 4 := by
    constructor <;> grind
  grind

def sg (s : Bool) (x : Rat) : Rat := if s then -x else x
/-- A word and its value: nought, or from 2^-22 to 3. -/
def Fin22 (A : Nat) : Prop := A < infR ∧ (A = 0 ∨ (2 : Rat) ^ (-22 : Int) ≤ vR A) ∧ vR A ≤ 3
/-- A direction's part on the unit sphere. -/
theorem coord {n A L : Nat} {k : Int} (hn : 1 ≤ n) (hn' : n ≤ 32) (hk : k.natAbs ≤ n) (l1 : (1 : Rat) ≤ 2 * vR L) (l2 : vR L ≤ 2) (h : Over (qX n k.natAbs) A L) :
    Fin22 A ∧ -eta ≤ sg (decide (k < 0)) (vR A) * vR L * n - k ∧ sg (decide (k < 0)) (vR A) * vR L * n - k ≤ eta := by
  obtain ⟨o1, o2, o3, o4⟩ := h
  obtain ⟨⟨d0, d1, d2⟩, q0, q1, q2, q3⟩ := qX_dir hn hn' hk
  have hA := vR_nonneg o1
  have hX := vR_nonneg d0
  have hnn : (1 : Rat) ≤ (n : Rat) := by exact_mod_cast hn
  have hnn' : (n : Rat) ≤ 32 := by exact_mod_cast hn'
  have hkn : (k.natAbs : Rat) ≤ (n : Rat) := by exact_mod_cast hk
  have hk0 : (0 : Rat) ≤ (k.natAbs : Rat) := by exact_mod_cast Nat.zero_le _
  rw [u53_is] at o3 o4 q2 q3
  rw [u54_is] at o3 o4
  have hsm : ∀ X : Nat, X ≠ 0 → (X = 0 ∨ (2 : Rat) ^ (-20 : Int) ≤ vR X) → (2 : Rat) ^ (-20 : Int) ≤ vR X := fun X h0 h => h.resolve_left h0
  have e22 : (2 : Rat) ^ (-20 : Int) = 4 * 2 ^ (-22 : Int) := by
    have h := two_add 2 (-22)
    rw [show (2 : Int) + -22 = -20 by decide, show (2 : Rat) ^ (2 : Int) = 4 from (two_nat 2).trans rfl] at h
    exact h
  have p22 := two_pos (-22)
  have hF : Fin22 A := by
    refine ⟨o1, ?_, ?_⟩
    · by_cases h0 : A = 0
      · exact .inl h0
      · right
        have hx := d1.resolve_left (fun h => h0 (o2.2 h))
        refine Rat.not_lt.1 fun h => ?_
        have a1 := Rat.mul_le_mul_of_nonneg_left l2 hA
        grind
    · refine Rat.not_lt.1 fun h => ?_
      have a1 := le_mul (show (0 : Rat) ≤ vR L by grind) (Rat.le_of_lt h)
      grind
  refine ⟨hF, ?_⟩
  -- the magnitude
  have m1 := le_mul (show (0 : Rat) ≤ n by grind) o3
  have m2 := le_mul (show (0 : Rat) ≤ n by grind) o4
  have key : -eta ≤ vR A * vR L * n - k.natAbs ∧ vR A * vR L * n - k.natAbs ≤ eta := by
    constructor <;> grind
  rcases Int.lt_or_le k 0 with h | h
  · have e : (k : Rat) = -(k.natAbs : Rat) := by
      obtain ⟨m, rfl⟩ : ∃ m : Nat, k = -(m : Int) := ⟨k.natAbs, by omega⟩
      rw [Int.natAbs_neg, Int.natAbs_natCast, Rat.intCast_neg]; rfl
    rw [decide_eq_true h, sg, if_pos rfl, e]
    constructor <;> grind
  · have e : (k : Rat) = (k.natAbs : Rat) := by
      obtain ⟨m, rfl⟩ : ∃ m : Nat, k = (m : Int) := ⟨k.natAbs, by omega⟩
      rw [Int.natAbs_natCast]; rfl
    rw [decide_eq_false (by omega), sg, if_neg (by decide), e]
    exact key
/-- What a direction's parts must be: within the side, and one of them as great as it. -/
def OnCube (n : Nat) (d : DirZ) : Prop := d.x.natAbs ≤ n ∧ d.y.natAbs ≤ n ∧ d.z.natAbs ≤ n ∧ (d.x.natAbs = n ∨ d.y.natAbs = n ∨ d.z.natAbs = n)
theorem unit_dir {n : Nat} {d : DirZ} (hn : 1 ≤ n) (hn' : n ≤ 32) (h : OnCube n d) : ∃ L A B C : Nat, L < infR ∧ (1 : Rat) ≤ 2 * vR L ∧ vR L ≤ 2 ∧
    unitF (vecW n d) = ⟨cw (decide (d.x < 0)) A, cw (decide (d.y < 0)) B, cw (decide (d.z < 0)) C⟩ ∧
    (Fin22 A ∧ -eta ≤ sg (decide (d.x < 0)) (vR A) * vR L * n - d.x ∧ sg (decide (d.x < 0)) (vR A) * vR L * n - d.x ≤ eta) ∧
    (Fin22 B ∧ -eta ≤ sg (decide (d.y < 0)) (vR B) * vR L * n - d.y ∧ sg (decide (d.y < 0)) (vR B) * vR L * n - d.y ≤ eta) ∧
    (Fin22 C ∧ -eta ≤ sg (decide (d.z < 0)) (vR C) * vR L * n - d.z ∧ sg (decide (d.z < 0)) (vR C) * vR L * n - d.z ≤ eta) := by
  obtain ⟨h1, h2, h3, h4⟩ := h
  have X := qX_dir hn hn' h1
  have Y := qX_dir hn hn' h2
  have Z := qX_dir hn hn' h3
  have x0 := vR_nonneg X.1.1
  have y0 := vR_nonneg Y.1.1
  have z0 := vR_nonneg Z.1.1
  have x2 := Rat.mul_nonneg x0 x0
  have y2 := Rat.mul_nonneg y0 y0
  have z2 := Rat.mul_nonneg z0 z0
  have hS : 1 ≤ vR (qX n d.x.natAbs) * vR (qX n d.x.natAbs) + vR (qX n d.y.natAbs) * vR (qX n d.y.natAbs) + vR (qX n d.z.natAbs) * vR (qX n d.z.natAbs) := by
    rcases h4 with h | h | h
    · rw [X.2.2.1 h, vR_one]; grind
    · rw [Y.2.2.1 h, vR_one]; grind
    · rw [Z.2.2.1 h, vR_one]; grind
  obtain ⟨L, A, B, C, _, l0, _, l1, l2, _, _, hU, oA, oB, oC⟩ := unit_near (decide (d.x < 0)) (decide (d.y < 0)) (decide (d.z < 0)) X.1 Y.1 Z.1 hS
  exact ⟨L, A, B, C, l0, l1, l2, hU, coord hn hn' h1 l1 l2 oA, coord hn hn' h2 l1 l2 oB, coord hn hn' h3 l1 l2 oC⟩

theorem dat_small {R : Nat} (h : R < infR) (s : Bool) : ∃ m e, dat s R = .number s m e ∧ mg m e = vR R ∧ m < 2 ^ 53 := by
  have hb : f64.binade = 2 ^ 52 := by decide
  have hl : f64.leastPlace = -1074 := by decide
  unfold dat vR
  rw [hb, hl]
  by_cases h1 : R < 2 ^ 52
  · rw [if_pos h1, if_pos h1]; exact ⟨_, _, rfl, rfl, by omega⟩
  · rw [if_neg h1, if_neg h1, if_pos h]; exact ⟨_, _, rfl, rfl, by omega⟩
/-- Such a word stands for a whole number of 2^-75. -/
theorem grain {A : Nat} (h : Fin22 A) : ∃ z : Nat, vR A = mg z (-75) := by
  rcases h.2.1 with h0 | h0
  · exact ⟨0, by rw [h0, vR_0]; unfold mg; rw [show ((0 : Nat) : Rat) = 0 from rfl, Rat.zero_mul]⟩
  · obtain ⟨m, e, _, h1, h2⟩ := dat_small h.1 false
    rw [← h1] at h0
    have h3 : mg m e ≤ mg (2 ^ 53) e := mg_le (by omega) e
    have h4 : mg (2 ^ 53) e = 2 ^ (53 + e) := by
      unfold mg
      rw [two_add, show (2 : Rat) ^ (53 : Int) = ((2 ^ 53 : Nat) : Rat) from two_nat 53]
    have h5 : -75 ≤ e := by
      rcases Int.lt_or_le e (-75) with h | h
      · exfalso
        have a : (2 : Rat) ^ (53 + e) ≤ 2 ^ (-23 : Int) := two_le (by omega)
        have b := two_pos (-23)
        have c : (2 : Rat) ^ (-22 : Int) = 2 * 2 ^ (-23 : Int) := by
          have h := two_add 1 (-23)
          rw [show (1 : Int) + -23 = -22 by decide, two_1] at h
          exact h
        grind
      · exact h
    refine ⟨m * 2 ^ (e + 75).toNat, ?_⟩
    rw [mg_nat, ← h1]
    congr 1; omega
theorem fsub_is (a b : Nat) : fsub (some a) (some b) = ((f64.read a).sum (f64.read b).opposite).map f64.write := rfl
theorem read_cw (s : Bool) {A : Nat} (h : A < infR) : ∃ s' m e, f64.read (cw s A) = .number s' m e ∧ sg s' (mg m e) = sg s (vR A) := by
  have hi := infR_eq
  by_cases h0 : A = 0
  · subst h0
    refine ⟨false, 0, f64.leastPlace, by rw [cw, if_pos rfl]; rfl, ?_⟩
    rw [vR_0]
    unfold sg mg
    rw [show ((0 : Nat) : Rat) = 0 from rfl, Rat.zero_mul]
    cases s <;> rfl
  · obtain ⟨m, e, h1, h2, _⟩ := dat_num h s
    exact ⟨s, m, e, by rw [cw, if_neg h0, read_wd s (by omega), h1], by rw [h2]⟩
theorem signed_val (s : Bool) (m : Nat) (i base : Int) (h : base ≤ i) : ((Ieee.signed s m (i - base).toNat : Int) : Rat) * 2 ^ base = sg s (mg m i) := by
  have e := mg_shift m i base h
  unfold Ieee.signed sg
  cases s
  · simp only [Bool.false_eq_true, if_false]
    rw [← e]; rfl
  · simp only [if_true]
    rw [← e, Rat.intCast_neg]
    unfold mg
    rw [show (((m <<< (i - base).toNat : Nat) : Int) : Rat) = ((m <<< (i - base).toNat : Nat) : Rat) from rfl]
    grind
/-- A difference of two words. -/
theorem sub_near (s t : Bool) {A B : Nat} (hA : Fin22 A) (hB : Fin22 B) : ∃ r D, canonF (fsub (some (cw s A)) (some (cw t B))) = cw r D ∧
    ((sg s (vR A) - sg t (vR B) = 0 ∧ D = 0) ∨ ∃ a, (a = sg s (vR A) - sg t (vR B) ∨ a = -(sg s (vR A) - sg t (vR B))) ∧ (2 : Rat) ^ (-75 : Int) ≤ a ∧ a ≤ 6 ∧ Near D a) := by
  obtain ⟨s', m, i, r1, v1⟩ := read_cw s hA.1
  obtain ⟨t', n, j, r2, v2⟩ := read_cw t hB.1
  obtain ⟨za, ea⟩ := grain hA
  obtain ⟨zb, eb⟩ := grain hB
  have na := vR_nonneg hA.1
  have nb := vR_nonneg hB.1
  have p75 := two_pos (-75)
  -- the difference in grains
  have hz : ∃ z : Int, sg s (vR A) - sg t (vR B) = (z : Rat) * 2 ^ (-75 : Int) := by
    rw [ea, eb]
    unfold sg mg
    cases s <;> cases t
    · exact ⟨(za : Int) - zb, by rw [Rat.intCast_sub]; simp only [Bool.false_eq_true, if_false]; show _ = ((za : Rat) - (zb : Rat)) * _; grind⟩
    · exact ⟨(za : Int) + zb, by rw [Rat.intCast_add]; simp only [Bool.false_eq_true, if_false, if_true]; show _ = ((za : Rat) + (zb : Rat)) * _; grind⟩
    · exact ⟨-(za : Int) - zb, by rw [Rat.intCast_sub, Rat.intCast_neg]; simp only [Bool.false_eq_true, if_false, if_true]; show _ = (-(za : Rat) - (zb : Rat)) * _; grind⟩
    · exact ⟨-(za : Int) + zb, by rw [Rat.intCast_add, Rat.intCast_neg]; simp only [if_true]; show _ = (-(za : Rat) + (zb : Rat)) * _; grind⟩
  have hbd : -6 ≤ sg s (vR A) - sg t (vR B) ∧ sg s (vR A) - sg t (vR B) ≤ 6 := by
    have := hA.2.2
    have := hB.2.2
    unfold sg
    cases s <;> cases t <;> simp only [Bool.false_eq_true, if_false, if_true] <;> constructor <;> grind
  -- the sum's datum
  have hop : sg (!t') (mg n j) = -sg t (vR B) := by
    rw [← v2]
    unfold sg
    cases t' <;> simp only [Bool.not_false, Bool.not_true, Bool.false_eq_true, if_false, if_true]
    · grind
  have hs1 := signed_val s' m i (min i j) (by omega)
  have hs2 := signed_val (!t') n j (min i j) (by omega)
  generalize hT : Ieee.signed s' m (i - min i j).toNat + Ieee.signed (!t') n (j - min i j).toNat = T at *
  have hTv : (T : Rat) * 2 ^ (min i j) = sg s (vR A) - sg t (vR B) := by
    rw [← hT, Rat.intCast_add]
    grind
  have hsum : (Ieee.Datum.number s' m i).sum (Ieee.Datum.number (!t') n j) = some (.number (if T = 0 then s' && !t' else decide (T < 0)) T.natAbs (min i j)) := by
    rw [← hT]; rfl
  have hsub : fsub (some (cw s A)) (some (cw t B)) = some (f64.nearest (if T = 0 then s' && !t' else decide (T < 0)) T.natAbs (min i j)) := by
    rw [fsub_is, r1, r2, Ieee.Datum.opposite, hsum, Option.map_some, write_num]
  rw [hsub]
  generalize (if T = 0 then s' && !t' else decide (T < 0)) = σ
  by_cases hT0 : T = 0
  · subst hT0
    refine ⟨false, 0, ?_, .inl ⟨?_, rfl⟩⟩
    · have := canon_zero (.number σ 0 (min i j)) rfl
      rw [write_num] at this
      exact this
    · rw [← hTv, show ((0 : Int) : Rat) = 0 from rfl, Rat.zero_mul]
  · have hp := two_pos (min i j)
    obtain ⟨z, hz⟩ := hz
    have hk : mg T.natAbs (min i j) = sg s (vR A) - sg t (vR B) ∨ mg T.natAbs (min i j) = -(sg s (vR A) - sg t (vR B)) := by
      rw [← hTv]
      unfold mg
      rcases Int.lt_or_le T 0 with h | h
      · right
        obtain ⟨u, rfl⟩ : ∃ u : Nat, T = -(u : Int) := ⟨T.natAbs, by omega⟩
        rw [Int.natAbs_neg, Int.natAbs_natCast, Rat.intCast_neg]
        show (u : Rat) * _ = -(-(u : Rat) * _)
        grind
      · left
        obtain ⟨u, rfl⟩ : ∃ u : Nat, T = (u : Int) := ⟨T.natAbs, by omega⟩
        rw [Int.natAbs_natCast]; rfl
    have hpos := mg_pos (show T.natAbs ≠ 0 by omega) (min i j)
    have hge : (2 : Rat) ^ (-75 : Int) ≤ mg T.natAbs (min i j) := by
      have hz0 : z ≠ 0 := by
        rintro rfl
        rw [show ((0 : Int) : Rat) = 0 from rfl, Rat.zero_mul] at hz
        rw [hz] at hk
        grind
      rcases (by omega : z ≤ -1 ∨ 1 ≤ z) with h | h
      · have e1 := Rat.intCast_le_intCast.2 h
        rw [show ((-1 : Int) : Rat) = -1 from rfl] at e1
        have e2 := le_mul (Rat.le_of_lt p75) e1
        grind
      · have e1 := Rat.intCast_le_intCast.2 h
        rw [show ((1 : Int) : Rat) = 1 from rfl] at e1
        have e2 := le_mul (Rat.le_of_lt p75) e1
        grind
    have hle : mg T.natAbs (min i j) ≤ 6 := by grind
    have hN := near_word T.natAbs (min i j) (by
      have a := two_le (show (-1022 : Int) ≤ -75 by decide)
      have b := two_le (show (3 : Int) ≤ 1000 by decide)
      rw [show (2 : Rat) ^ (3 : Int) = 8 from (two_nat 3).trans rfl] at b
      exact ⟨by grind, by grind⟩)
    refine ⟨σ, f64.nearest false T.natAbs (min i j), ?_, .inr ⟨_, hk, hge, hle, hN⟩⟩
    rw [nearest_sign]
    exact near_canon hN σ

theorem sub_comp {r : Bool} {D : Nat} {v : Rat} (h : (v = 0 ∧ D = 0) ∨ ∃ a, (a = v ∨ a = -v) ∧ (2 : Rat) ^ (-75 : Int) ≤ a ∧ a ≤ 6 ∧ Near D a) : Comp D ∧ (D = 0 → v = 0) := by
  rcases h with ⟨h1, rfl⟩ | ⟨a, h1, h2, h3, h4⟩
  · exact ⟨⟨by decide, .inl rfl, by rw [vR_0]; exact Rat.le_of_lt (two_pos _)⟩, fun _ => h1⟩
  · refine ⟨⟨h4.1, .inr ?_, ?_⟩, fun h => absurd h h4.2.1⟩
    · have p := two_le (show (-400 : Int) ≤ -76 by decide)
      have e : (2 : Rat) ^ (-75 : Int) = 2 * 2 ^ (-76 : Int) := by
        have h := two_add 1 (-76)
        rw [show (1 : Int) + -76 = -75 by decide, two_1] at h
        exact h
      have q := h4.2.2.2
      rw [u53_is] at q
      grind
    · have b := two_le (show (4 : Int) ≤ 400 by decide)
      rw [show (2 : Rat) ^ (4 : Int) = 16 from (two_nat 4).trans rfl] at b
      have q := h4.2.2.1
      rw [u53_is] at q
      grind
/-- The gap of two points whose directions are not one. -/
theorem gap_ne {n : Nat} {a b : DirZ} (hn : 1 ≤ n) (hn' : n ≤ 32) (ha : OnCube n a) (hb : OnCube n b) (h : a.x * b.y ≠ a.y * b.x ∨ a.x * b.z ≠ a.z * b.x ∨ a.y * b.z ≠ a.z * b.y) :
    gapF (unitF (vecW n a)) (unitF (vecW n b)) < infR ∧ gapF (unitF (vecW n a)) (unitF (vecW n b)) ≠ 0 := by
  obtain ⟨L, A, B, C, l0, l1, l2, e1, ⟨a1, a2⟩, ⟨b1, b2⟩, ⟨c1, c2⟩⟩ := unit_dir hn hn' ha
  obtain ⟨L', A', B', C', l0', l1', l2', e1', ⟨a1', a2'⟩, ⟨b1', b2'⟩, ⟨c1', c2'⟩⟩ := unit_dir hn hn' hb
  rw [e1, e1']
  obtain ⟨r1, D1, d1, k1⟩ := sub_near (decide (a.x < 0)) (decide (b.x < 0)) a1 a1'
  obtain ⟨r2, D2, d2, k2⟩ := sub_near (decide (a.y < 0)) (decide (b.y < 0)) b1 b1'
  obtain ⟨r3, D3, d3, k3⟩ := sub_near (decide (a.z < 0)) (decide (b.z < 0)) c1 c1'
  obtain ⟨m1, z1⟩ := sub_comp (r := r1) k1
  obtain ⟨m2, z2⟩ := sub_comp (r := r2) k2
  obtain ⟨m3, z3⟩ := sub_comp (r := r3) k3
  have hg : gapF ⟨cw (decide (a.x < 0)) A, cw (decide (a.y < 0)) B, cw (decide (a.z < 0)) C⟩ ⟨cw (decide (b.x < 0)) A', cw (decide (b.y < 0)) B', cw (decide (b.z < 0)) C'⟩ = lenF ⟨cw r1 D1, cw r2 D2, cw r3 D3⟩ := by
    unfold gapF minusF
    simp only [d1, d2, d3]
  rw [hg]
  have hnn : (0 : Rat) ≤ (n : Rat) := by exact_mod_cast Nat.zero_le n
  have hnn' : (n : Rat) ≤ 32 := by exact_mod_cast hn'
  have sgb : ∀ (s : Bool) (X : Nat), Fin22 X → -3 ≤ sg s (vR X) ∧ sg s (vR X) ≤ 3 := by
    intro s X hX
    have := vR_nonneg hX.1
    have := hX.2.2
    unfold sg
    cases s <;> simp only [Bool.false_eq_true, if_false, if_true] <;> constructor <;> grind
  have hl : 0 ≤ vR L ∧ vR L ≤ 2 := ⟨vR_nonneg l0, l2⟩
  have hl' : 0 ≤ vR L' ∧ vR L' ≤ 2 := ⟨vR_nonneg l0', l2'⟩
  have hd : (0 : Rat) ≤ del := by decide +kernel
  have close : ∀ {u v : Rat}, u - v = 0 → -del ≤ v - u ∧ v - u ≤ del := by
    intro u v h
    constructor <;> grind
  have h0 : D1 ≠ 0 ∨ D2 ≠ 0 ∨ D3 ≠ 0 := by
    by_cases q1 : D1 = 0
    · by_cases q2 : D2 = 0
      · by_cases q3 : D3 = 0
        · exfalso
          have w1 := close (z1 q1)
          have w2 := close (z2 q2)
          have w3 := close (z3 q3)
          have hx := ha.1; have hy := ha.2.1; have hz := ha.2.2.1
          have hx' := hb.1; have hy' := hb.2.1; have hz' := hb.2.2.1
          rcases h with h | h | h
          · exact sep (by omega) (by omega) (by omega) (by omega) h hl hl' ⟨hnn, hnn'⟩ (sgb _ _ a1) (sgb _ _ b1) a2 b2 a2' b2' w1 w2
          · exact sep (by omega) (by omega) (by omega) (by omega) h hl hl' ⟨hnn, hnn'⟩ (sgb _ _ a1) (sgb _ _ c1) a2 c2 a2' c2' w1 w3
          · exact sep (by omega) (by omega) (by omega) (by omega) h hl hl' ⟨hnn, hnn'⟩ (sgb _ _ b1) (sgb _ _ c1) b2 c2 b2' c2' w2 w3
        · exact .inr (.inr q3)
      · exact .inr (.inl q2)
    · exact .inl q1
  obtain ⟨N, hN, n1, n2, _⟩ := len_near r1 r2 r3 m1 m2 m3 h0
  rw [hN]
  exact ⟨n1, n2⟩
theorem onCube {n : Nat} (f : Nat) {k l : Int} (hk : k.natAbs ≤ n) (hl : l.natAbs ≤ n) : OnCube n (dirF n f k l) := by
  match f with
  | 0 => exact ⟨by show (n : Int).natAbs ≤ n; omega, hk, hl, .inl (by show (n : Int).natAbs = n; omega)⟩
  | 1 => exact ⟨by show (-k).natAbs ≤ n; omega, by show (n : Int).natAbs ≤ n; omega, hl, .inr (.inl (by show (n : Int).natAbs = n; omega))⟩
  | 2 => exact ⟨by show (-(n : Int)).natAbs ≤ n; omega, by show (-k).natAbs ≤ n; omega, hl, .inl (by show (-(n : Int)).natAbs = n; omega)⟩
  | 3 => exact ⟨hk, by show (-(n : Int)).natAbs ≤ n; omega, hl, .inr (.inl (by show (-(n : Int)).natAbs = n; omega))⟩
  | 4 => exact ⟨by show (-l).natAbs ≤ n; omega, hk, by show (n : Int).natAbs ≤ n; omega, .inr (.inr (by show (n : Int).natAbs = n; omega))⟩
  | f + 5 => exact ⟨hl, hk, by show (-(n : Int)).natAbs ≤ n; omega, .inr (.inr (by show (-(n : Int)).natAbs = n; omega))⟩
/-- On one face: two points whose numbers differ. -/
theorem face_ne {n f : Nat} {k l k' l' : Int} (hn : 1 ≤ n) (h : k ≠ k' ∨ l ≠ l') :
    (dirF n f k l).x * (dirF n f k' l').y ≠ (dirF n f k l).y * (dirF n f k' l').x ∨ (dirF n f k l).x * (dirF n f k' l').z ≠ (dirF n f k l).z * (dirF n f k' l').x ∨ (dirF n f k l).y * (dirF n f k' l').z ≠ (dirF n f k l).z * (dirF n f k' l').y := by
  have hn0 : (n : Int) ≠ 0 := by omega
  have c : ∀ {a b : Int}, a ≠ b → (n : Int) * b ≠ a * n := by
    intro a b hab h
    rw [Int.mul_comm a] at h
    exact hab (Int.eq_of_mul_eq_mul_left hn0 h).symm
  match f with
  | 0 =>
    rcases h with h | h
    · exact .inl (c h)
    · exact .inr (.inl (c h))
  | 1 =>
    rcases h with h | h
    · refine .inl ?_
      show -k * (n : Int) ≠ n * -k'
      have := c (show -k ≠ -k' by omega)
      exact fun h => this h.symm
    · exact .inr (.inr (c h))
  | 2 =>
    rcases h with h | h
    · refine .inl ?_
      show -(n : Int) * -k' ≠ -k * -(n : Int)
      have := c h
      rw [Int.neg_mul_neg, Int.neg_mul_neg]
      exact this
    · refine .inr (.inl ?_)
      show -(n : Int) * l' ≠ l * -(n : Int)
      rw [Int.neg_mul, Int.mul_neg]
      have := c h
      omega
  | 3 =>
    rcases h with h | h
    · refine .inl ?_
      show k * -(n : Int) ≠ -(n : Int) * k'
      rw [Int.neg_mul, Int.mul_neg]
      have := c h
      omega
    · refine .inr (.inr ?_)
      show -(n : Int) * l' ≠ l * -(n : Int)
      rw [Int.neg_mul, Int.mul_neg]
      have := c h
      omega
  | 4 =>
    rcases h with h | h
    · refine .inr (.inr ?_)
      show k * (n : Int) ≠ n * k'
      exact fun e => c h e.symm
    · refine .inr (.inl ?_)
      show -l * (n : Int) ≠ n * -l'
      have := c (show -l ≠ -l' by omega)
      exact fun e => this e.symm
  | f + 5 =>
    rcases h with h | h
    · refine .inr (.inr ?_)
      show k * -(n : Int) ≠ -(n : Int) * k'
      rw [Int.neg_mul, Int.mul_neg]
      have := c h
      omega
    · refine .inr (.inl ?_)
      show l * -(n : Int) ≠ -(n : Int) * l'
      rw [Int.neg_mul, Int.mul_neg]
      have := c h
      omega
/-- A cell's sides are longer than nought. -/
theorem lenS_ne {n f i j s : Nat} (hn : 1 ≤ n) (hn' : n ≤ 32) (hi : i < n) (hj : j < n) : lenS n f i j s < infR ∧ lenS n f i j s ≠ 0 := by
  have key : ∀ i j i' j' : Nat, i ≤ n → j ≤ n → i' ≤ n → j' ≤ n → (i ≠ i' ∨ j ≠ j') → gapF (cornerF n f i j) (cornerF n f i' j') < infR ∧ gapF (cornerF n f i j) (cornerF n f i' j') ≠ 0 := by
    intro i j i' j' h1 h2 h3 h4 h5
    rw [corner_dir hn hn' h1 h2, corner_dir hn hn' h3 h4]
    exact gap_ne hn hn' (onCube f (by omega) (by omega)) (onCube f (by omega) (by omega)) (face_ne hn (by omega))
  match s with
  | 0 => exact key _ _ _ _ (by omega) (by omega) (by omega) (by omega) (by omega)
  | 1 => exact key _ _ _ _ (by omega) (by omega) (by omega) (by omega) (by omega)
  | 2 => exact key _ _ _ _ (by omega) (by omega) (by omega) (by omega) (by omega)
  | s + 3 => exact key _ _ _ _ (by omega) (by omega) (by omega) (by omega) (by omega)

/-- A face's own axis; a direction's part by its axis. -/
def ax : Nat → Nat
  | 0 => 0
  | 1 => 1
  | 2 => 0
  | 3 => 1
  | _ => 2
def co (d : DirZ) : Nat → Int
  | 0 => d.x
  | 1 => d.y
  | _ => d.z
theorem ax_lt (f : Nat) : ax f < 3 := by unfold ax; split <;> decide
theorem nbT_ax : ∀ f, f < 6 → ∀ s, s < 4 → ax (nbT f s).1 ≠ ax f := by decide
theorem co_ax (n f : Nat) (k l : Int) : (co (dirF n f k l) (ax f)).natAbs = n := by
  match f with
  | 0 => show (n : Int).natAbs = n; omega
  | 1 => show (n : Int).natAbs = n; omega
  | 2 => show (-(n : Int)).natAbs = n; omega
  | 3 => show (-(n : Int)).natAbs = n; omega
  | 4 => show (n : Int).natAbs = n; omega
  | f + 5 => show (-(n : Int)).natAbs = n; omega
theorem co_off {n f a m : Nat} {k l : Int} (ha : a < 3) (h : a ≠ ax f) (hk : k.natAbs ≤ m) (hl : l.natAbs ≤ m) : (co (dirF n f k l) a).natAbs ≤ m := by
  obtain rfl | rfl | rfl : a = 0 ∨ a = 1 ∨ a = 2 := by omega
  all_goals
    match f with
    | 0 => first | exact absurd rfl h | exact hk | exact hl
    | 1 => first | exact absurd rfl h | exact hl | (show (-k).natAbs ≤ m; omega)
    | 2 => first | exact absurd rfl h | exact hl | (show (-k).natAbs ≤ m; omega)
    | 3 => first | exact absurd rfl h | exact hk | exact hl
    | 4 => first | exact absurd rfl h | exact hk | (show (-l).natAbs ≤ m; omega)
    | f + 5 => first | exact absurd rfl h | exact hk | exact hl
theorem co_ne {a b : DirZ} {i j : Nat} (hi : i < 3) (hj : j < 3) (h : co a i * co b j ≠ co a j * co b i) : a.x * b.y ≠ a.y * b.x ∨ a.x * b.z ≠ a.z * b.x ∨ a.y * b.z ≠ a.z * b.y := by
  obtain rfl | rfl | rfl : i = 0 ∨ i = 1 ∨ i = 2 := by omega
  all_goals
    obtain rfl | rfl | rfl : j = 0 ∨ j = 1 ∨ j = 2 := by omega
  · exact absurd rfl h
  · exact .inl h
  · exact .inr (.inl h)
  · exact .inl (Ne.symm h)
  · exact absurd rfl h
  · exact .inr (.inr h)
  · exact .inr (.inl (Ne.symm h))
  · exact .inr (.inr (Ne.symm h))
  · exact absurd rfl h
/-- Middles on two faces that lie side by side. -/
theorem cross_ne {n f g : Nat} {k l k' l' : Int} (hn : 1 ≤ n) (hfg : ax g ≠ ax f) (hk : k.natAbs ≤ n - 1) (hl : l.natAbs ≤ n - 1) (hk' : k'.natAbs ≤ n - 1) (hl' : l'.natAbs ≤ n - 1) :
    (dirF n f k l).x * (dirF n g k' l').y ≠ (dirF n f k l).y * (dirF n g k' l').x ∨ (dirF n f k l).x * (dirF n g k' l').z ≠ (dirF n f k l).z * (dirF n g k' l').x ∨ (dirF n f k l).y * (dirF n g k' l').z ≠ (dirF n f k l).z * (dirF n g k' l').y := by
  refine co_ne (ax_lt f) (ax_lt g) fun h => ?_
  have h1 := congrArg Int.natAbs h
  rw [Int.natAbs_mul, Int.natAbs_mul, co_ax, co_ax] at h1
  have h2 := co_off (n := n) (ax_lt g) hfg hk hl
  have h3 := co_off (n := n) (ax_lt f) (Ne.symm hfg) hk' hl'
  have h4 := Nat.mul_le_mul h2 h3
  have h5 : (n - 1) * (n - 1) < n * n := Nat.mul_lt_mul_of_lt_of_le (by omega) (by omega) (by omega)
  omega
theorem gapS_ne {n f i j s : Nat} (hn : 1 ≤ n) (hn' : n ≤ 32) (hf : f < 6) (hi : i < n) (hj : j < n) (hs : s < 4) : gapS n f i j s < infR ∧ gapS n f i j s ≠ 0 := by
  obtain ⟨k1, k2, k3, k4⟩ := nb_lt (s := s) hf hi hj
  have hcell := (nb_cell hf hi hj hs).1
  have hface : (nb n f i j s).1 = f ∨ ax (nb n f i j s).1 ≠ ax f := by
    by_cases h : atE n i j s
    · right
      rw [nb_at h hs]
      exact nbT_ax f hf s hs
    · left
      obtain rfl | rfl | rfl | rfl : s = 0 ∨ s = 1 ∨ s = 2 ∨ s = 3 := by omega
      · have h : ¬ i + 1 = n := h
        show (if i + 1 < n then _ else _ : Nat × Nat × Nat × Nat).1 = f
        rw [if_pos (by omega)]
      · have h : ¬ j + 1 = n := h
        show (if j + 1 < n then _ else _ : Nat × Nat × Nat × Nat).1 = f
        rw [if_pos (by omega)]
      · have h : ¬ i = 0 := h
        show (if 0 < i then _ else _ : Nat × Nat × Nat × Nat).1 = f
        rw [if_pos (by omega)]
      · have h : ¬ j = 0 := h
        show (if 0 < j then _ else _ : Nat × Nat × Nat × Nat).1 = f
        rw [if_pos (by omega)]
  unfold gapS
  generalize nb n f i j s = p at *
  obtain ⟨g, a, b, t⟩ := p
  simp only at *
  rw [middle_dir hn hn' hi hj, middle_dir hn hn' k2 k3]
  refine gap_ne hn hn' (onCube f (by omega) (by omega)) (onCube g (by omega) (by omega)) ?_
  rcases hface with rfl | h
  · refine face_ne hn ?_
    simp only [ne_eq, Prod.mk.injEq, not_and, true_and] at hcell
    by_cases e : a = i
    · have := hcell e; omega
    · omega
  · exact cross_ne hn h (by omega) (by omega) (by omega) (by omega)

/-- The directions of a side's two ends. -/
def endA (n f i j : Nat) : Nat → DirZ
  | 0 => dirF n f (2 * (i + 1 : Nat) - n) (2 * (j : Nat) - n)
  | 1 => dirF n f (2 * (i : Nat) - n) (2 * (j + 1 : Nat) - n)
  | _ => dirF n f (2 * (i : Nat) - n) (2 * (j : Nat) - n)
def endB (n f i j : Nat) : Nat → DirZ
  | 0 => dirF n f (2 * (i + 1 : Nat) - n) (2 * (j + 1 : Nat) - n)
  | 1 => dirF n f (2 * (i + 1 : Nat) - n) (2 * (j + 1 : Nat) - n)
  | 2 => dirF n f (2 * (i : Nat) - n) (2 * (j + 1 : Nat) - n)
  | _ => dirF n f (2 * (i + 1 : Nat) - n) (2 * (j : Nat) - n)
theorem lenS_ends {n f i j s : Nat} (hn : 1 ≤ n) (hn' : n ≤ 32) (hi : i < n) (hj : j < n) : lenS n f i j s = gapF (unitF (vecW n (endA n f i j s))) (unitF (vecW n (endB n f i j s))) := by
  match s with
  | 0 =>
    show gapF (cornerF n f (i + 1) j) (cornerF n f (i + 1) (j + 1)) = _
    rw [corner_dir hn hn' (by omega) (by omega), corner_dir hn hn' (by omega) (by omega)]; rfl
  | 1 =>
    show gapF (cornerF n f i (j + 1)) (cornerF n f (i + 1) (j + 1)) = _
    rw [corner_dir hn hn' (by omega) (by omega), corner_dir hn hn' (by omega) (by omega)]; rfl
  | 2 =>
    show gapF (cornerF n f i j) (cornerF n f i (j + 1)) = _
    rw [corner_dir hn hn' (by omega) (by omega), corner_dir hn hn' (by omega) (by omega)]; rfl
  | s + 3 =>
    show gapF (cornerF n f i j) (cornerF n f (i + 1) j) = _
    rw [corner_dir hn hn' (by omega) (by omega), corner_dir hn hn' (by omega) (by omega)]; rfl
theorem DirZ.of {a b c a' b' c' : Int} (h1 : a = a') (h2 : b = b') (h3 : c = c') : DirZ.mk a b c = DirZ.mk a' b' c' := by subst h1 h2 h3; rfl
/-- The ends of the side that lies there: the same two, in this order or in the other. -/
theorem ends_nb {n f i j s : Nat} (hf : f < 6) (hi : i < n) (hj : j < n) (hs : s < 4) :
    (endA n (nb n f i j s).1 (nb n f i j s).2.1 (nb n f i j s).2.2.1 (nb n f i j s).2.2.2 = endA n f i j s ∧ endB n (nb n f i j s).1 (nb n f i j s).2.1 (nb n f i j s).2.2.1 (nb n f i j s).2.2.2 = endB n f i j s) ∨
    (endA n (nb n f i j s).1 (nb n f i j s).2.1 (nb n f i j s).2.2.1 (nb n f i j s).2.2.2 = endB n f i j s ∧ endB n (nb n f i j s).1 (nb n f i j s).2.1 (nb n f i j s).2.2.1 (nb n f i j s).2.2.2 = endA n f i j s) := by
  by_cases h : atE n i j s
  · rw [nb_at h hs]
    obtain rfl | rfl | rfl | rfl : s = 0 ∨ s = 1 ∨ s = 2 ∨ s = 3 := by omega
    · have h : i + 1 = n := h
      obtain rfl | rfl | rfl | rfl | rfl | rfl : f = 0 ∨ f = 1 ∨ f = 2 ∨ f = 3 ∨ f = 4 ∨ f = 5 := by omega
      all_goals
        simp only [nbE, nbT, putS, flipK, alongS, endA, endB, dirF, DirZ.mk.injEq, true_and, and_true, true_or, or_true] <;> omega
    · have h : j + 1 = n := h
      obtain rfl | rfl | rfl | rfl | rfl | rfl : f = 0 ∨ f = 1 ∨ f = 2 ∨ f = 3 ∨ f = 4 ∨ f = 5 := by omega
      all_goals
        simp only [nbE, nbT, putS, flipK, alongS, endA, endB, dirF, DirZ.mk.injEq, true_and, and_true, true_or, or_true] <;> omega
    · have h : i = 0 := h
      obtain rfl | rfl | rfl | rfl | rfl | rfl : f = 0 ∨ f = 1 ∨ f = 2 ∨ f = 3 ∨ f = 4 ∨ f = 5 := by omega
      all_goals
        simp only [nbE, nbT, putS, flipK, alongS, endA, endB, dirF, DirZ.mk.injEq, true_and, and_true, true_or, or_true] <;> omega
    · have h : j = 0 := h
      obtain rfl | rfl | rfl | rfl | rfl | rfl : f = 0 ∨ f = 1 ∨ f = 2 ∨ f = 3 ∨ f = 4 ∨ f = 5 := by omega
      all_goals
        simp only [nbE, nbT, putS, flipK, alongS, endA, endB, dirF, DirZ.mk.injEq, true_and, and_true, true_or, or_true] <;> omega
  · left
    obtain rfl | rfl | rfl | rfl : s = 0 ∨ s = 1 ∨ s = 2 ∨ s = 3 := by omega
    · have h : ¬ i + 1 = n := h
      rw [show nb n f i j 0 = (f, i + 1, j, 2) from if_pos (by omega)]
      exact ⟨rfl, rfl⟩
    · have h : ¬ j + 1 = n := h
      rw [show nb n f i j 1 = (f, i, j + 1, 3) from if_pos (by omega)]
      exact ⟨rfl, rfl⟩
    · have h : ¬ i = 0 := h
      rw [show nb n f i j 2 = (f, i - 1, j, 0) from if_pos (by omega)]
      obtain ⟨i, rfl⟩ : ∃ k, i = k + 1 := ⟨i - 1, by omega⟩
      exact ⟨rfl, rfl⟩
    · have h : ¬ j = 0 := h
      rw [show nb n f i j 3 = (f, i, j - 1, 1) from if_pos (by omega)]
      obtain ⟨j, rfl⟩ : ∃ k, j = k + 1 := ⟨j - 1, by omega⟩
      exact ⟨rfl, rfl⟩
/-- A difference the other way round. -/
theorem sub_swap {a b D : Nat} {s : Bool} (hD : D < infR) (h : canonF (fsub (some a) (some b)) = cw s D) : canonF (fsub (some b) (some a)) = negF (canonF (fsub (some a) (some b))) := by
  have hi := infR_eq
  rw [fsub_is b a, sum_comm]
  rw [fsub_is] at h ⊢
  rcases sum_opp (f64.read a) (f64.read b).opposite with ⟨h1, _⟩ | ⟨d, h1, h2⟩
  · exfalso
    rw [h1] at h
    have hq : canonF (Option.map f64.write none) = qn := rfl
    rw [hq] at h
    have hqn : qn = 9221120237041090561 ∨ qn = 9221120237041090560 := by decide
    unfold cw at h
    split at h
    · omega
    · cases s
      · rw [wd_false] at h; omega
      · rw [wd_true] at h; omega
  · rw [opp_opp] at h2
    obtain ⟨c1, c2⟩ := canon_write d (nan_sum h1)
    rw [h1, Option.map_some]
    rcases h2 with h2 | ⟨s1, s2, e, rfl, h2⟩
    · rw [h2, Option.map_some]; exact c2
    · rw [h2, Option.map_some, canon_zero _ rfl, canon_zero _ rfl, negF_0]
theorem lenF_neg {a b c : Nat} (ha : Good a) (hb : Good b) (hc : Good c) : lenF ⟨negF a, negF b, negF c⟩ = lenF ⟨a, b, c⟩ := by
  unfold lenF
  simp only [sq_neg ha, sq_neg hb, sq_neg hc]
theorem sub_lt {D : Nat} {v : Rat} (h : (v = 0 ∧ D = 0) ∨ ∃ a, (a = v ∨ a = -v) ∧ (2 : Rat) ^ (-75 : Int) ≤ a ∧ a ≤ 6 ∧ Near D a) : D < infR := by
  rcases h with ⟨_, rfl⟩ | ⟨a, _, _, _, h⟩
  · decide
  · exact h.1
theorem gap_symm {n : Nat} {a b : DirZ} (hn : 1 ≤ n) (hn' : n ≤ 32) (ha : OnCube n a) (hb : OnCube n b) : gapF (unitF (vecW n b)) (unitF (vecW n a)) = gapF (unitF (vecW n a)) (unitF (vecW n b)) := by
  obtain ⟨L, A, B, C, _, _, _, e1, ⟨a1, _⟩, ⟨b1, _⟩, ⟨c1, _⟩⟩ := unit_dir hn hn' ha
  obtain ⟨L', A', B', C', _, _, _, e1', ⟨a1', _⟩, ⟨b1', _⟩, ⟨c1', _⟩⟩ := unit_dir hn hn' hb
  rw [e1, e1']
  obtain ⟨r1, D1, d1, k1⟩ := sub_near (decide (a.x < 0)) (decide (b.x < 0)) a1 a1'
  obtain ⟨r2, D2, d2, k2⟩ := sub_near (decide (a.y < 0)) (decide (b.y < 0)) b1 b1'
  obtain ⟨r3, D3, d3, k3⟩ := sub_near (decide (a.z < 0)) (decide (b.z < 0)) c1 c1'
  have l1 := sub_lt k1
  have l2 := sub_lt k2
  have l3 := sub_lt k3
  have s1 := sub_swap l1 d1
  have s2 := sub_swap l2 d2
  have s3 := sub_swap l3 d3
  unfold gapF minusF
  simp only [s1, s2, s3, d1, d2, d3]
  exact lenF_neg ⟨_, _, Nat.le_of_lt l1, rfl⟩ ⟨_, _, Nat.le_of_lt l2, rfl⟩ ⟨_, _, Nat.le_of_lt l3, rfl⟩
theorem endA_on {n f i j s : Nat} (hi : i < n) (hj : j < n) : OnCube n (endA n f i j s) ∧ OnCube n (endB n f i j s) := by
  match s with
  | 0 => exact ⟨onCube f (by omega) (by omega), onCube f (by omega) (by omega)⟩
  | 1 => exact ⟨onCube f (by omega) (by omega), onCube f (by omega) (by omega)⟩
  | 2 => exact ⟨onCube f (by omega) (by omega), onCube f (by omega) (by omega)⟩
  | s + 3 => exact ⟨onCube f (by omega) (by omega), onCube f (by omega) (by omega)⟩
/-- A side is as long from the other cell. -/
theorem lenS_nb {n f i j s : Nat} (hn : 1 ≤ n) (hn' : n ≤ 32) (hf : f < 6) (hi : i < n) (hj : j < n) (hs : s < 4) :
    lenS n (nb n f i j s).1 (nb n f i j s).2.1 (nb n f i j s).2.2.1 (nb n f i j s).2.2.2 = lenS n f i j s := by
  obtain ⟨k1, k2, k3, k4⟩ := nb_lt (s := s) hf hi hj
  have o := endA_on (f := f) (s := s) hi hj
  rw [lenS_ends hn hn' k2 k3, lenS_ends hn hn' hi hj]
  rcases ends_nb hf hi hj hs with ⟨h1, h2⟩ | ⟨h1, h2⟩
  · rw [h1, h2]
  · rw [h1, h2]
    exact gap_symm hn hn' o.1 o.2
theorem gapS_nb {n f i j s : Nat} (hn : 1 ≤ n) (hn' : n ≤ 32) (hf : f < 6) (hi : i < n) (hj : j < n) (hs : s < 4) :
    gapS n (nb n f i j s).1 (nb n f i j s).2.1 (nb n f i j s).2.2.1 (nb n f i j s).2.2.2 = gapS n f i j s := by
  obtain ⟨k1, k2, k3, k4⟩ := nb_lt (s := s) hf hi hj
  have hb := nb_back hf hi hj hs
  unfold gapS
  rw [hb]
  simp only
  rw [middle_dir hn hn' hi hj, middle_dir hn hn' k2 k3]
  exact gap_symm hn hn' (onCube f (by omega) (by omega)) (onCube _ (by omega) (by omega))
end Go.Proofs.YtemaeembndobaaaGreatDoor
