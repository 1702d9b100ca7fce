/- What the statements of layer 16 share: a small lake, a copied sea, a sea's length. No condition. -/
import Derived.Test.YthoofdnnfahhaaaGreatDoorFc
namespace Go.Proofs.YthoofdnnfahhaaaGreatDoor
open Go Go.Eng
set_option maxRecDepth 100000
set_option linter.unusedSimpArgs false
set_option linter.unusedVariables false

section
variable {M : List Blk} {b n : Nat} (N : Net M b n) {j0 j1 j2 j3 : Nat} (sky step : Int)
include N
end
/-- Has a sea too long a list? -/
def longS (a b c d : Nat) : Bool := decide (a > 65536 ∨ b > 65536 ∨ c > 65536 ∨ d > 65536)
theorem fit_short {n a b c d : Nat} (h : Fit n a b c d) (hn : 1 ≤ n) (hn' : n ≤ 32) : longS a b c d = false := by
  have hlen := edges_len hn
  have hsq : n * n ≤ 1024 := Nat.mul_le_mul hn' hn'
  obtain ⟨h0, h1, h2, h3⟩ := h
  rw [longS, decide_eq_false (by omega)]
end Go.Proofs.YthoofdnnfahhaaaGreatDoor
