/- How large sums and products of integers are: plain. -/
import Derived.Test.YtpblkjjafdfjkaaN9
namespace Go.Proofs.Ytpblkjjafdfjkaa.V
open Go.RowKit
set_option linter.unusedVariables false
set_option linter.unusedSimpArgs false
/-- At most k digits. -/
structure Mg (k : Nat) (z : Int) : Prop where
  out : z.natAbs < 4294967296 ^ k
theorem Mg.iv {s : Bool} {l : List Int} {k : Nat} (h : Dig l) (hk : l.length ≤ k) : Mg k (iv s l) :=
  ⟨by rw [natAbs_iv]; exact Nat.lt_of_lt_of_le (val_lt h) (Nat.pow_le_pow_right (by omega) hk)⟩
theorem Mg.mono {k j : Nat} {z : Int} (h : Mg k z) (hk : k ≤ j) : Mg j z := ⟨Nat.lt_of_lt_of_le h.out (Nat.pow_le_pow_right (by omega) hk)⟩
theorem Mg.add {k : Nat} {a b : Int} (ha : Mg k a) (hb : Mg k b) : Mg (k + 1) (a + b) := ⟨by
  have h1 := ha.out
  have h2 := hb.out
  have h3 := Int.natAbs_add_le a b
  rw [Nat.pow_succ]
  generalize 4294967296 ^ k = p at *
  omega⟩
theorem Mg.neg {k : Nat} {a : Int} (ha : Mg k a) : Mg k (-a) := ⟨by rw [Int.natAbs_neg]; exact ha.out⟩
theorem Mg.sub {k : Nat} {a b : Int} (ha : Mg k a) (hb : Mg k b) : Mg (k + 1) (a - b) := by rw [Int.sub_eq_add_neg]; exact ha.add hb.neg
theorem Mg.mul {k j : Nat} {a b : Int} (ha : Mg k a) (hb : Mg j b) : Mg (k + j) (a * b) := ⟨by
  rw [Int.natAbs_mul, Nat.pow_add]
  exact Nat.mul_lt_mul'' ha.out hb.out⟩
theorem Mg.sm {k : Nat} {z : Int} (h : Mg k z) (hk : k ≤ 400000) : Sm (Zp z).2 := ⟨dig_dg _, (dg_len _ _).2 (h.mono hk).out⟩
theorem Mg.ok {k : Nat} {z : Int} (h : Mg k z) (hk : k ≤ 400000) : Ok (Zp z).2 := (h.sm hk).ok
theorem iv_zp (z : Int) : iv (Zp z).1 (Zp z).2 = z := iv_dg z
theorem sm10 {l : List Int} (h : Dig l) (hk : l.length ≤ 10) : Sm l := ⟨h, by omega⟩
end Go.Proofs.Ytpblkjjafdfjkaa.V
