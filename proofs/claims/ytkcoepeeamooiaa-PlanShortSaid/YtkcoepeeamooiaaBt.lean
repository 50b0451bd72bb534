/- Bits of numbers, as the runs over abstract states reckon them. -/
import Derived.Test.YtkcoepeeamooiaaAb18
set_option linter.unusedVariables false
set_option linter.unusedSimpArgs false
namespace Go.Ab
open Go

theorem ofInt_toNat (w : Nat) (x : Int) (h1 : 0 ≤ x) (h2 : x < 2 ^ w) : (BitVec.ofInt w x).toNat = x.toNat := by
  rw [BitVec.toNat_ofInt]
  congr 1
  exact Int.emod_eq_of_lt h1 (by simpa using h2)
theorem wrap_uns {k : IntKind} (hk : k.signed = false) {x : Int} (h1 : 0 ≤ x) (h2 : x < 2 ^ k.bits) : k.wrap x = x := by
  simp only [IntKind.wrap, hk, Bool.false_and]
  simp
  exact Int.emod_eq_of_lt h1 h2
theorem toNat_lt {x : Int} {w : Nat} (h1 : 0 ≤ x) (h2 : x < 2 ^ w) : x.toNat < 2 ^ w := by
  have : ((x.toNat : Nat) : Int) < ((2 ^ w : Nat) : Int) := by rw [Int.toNat_of_nonneg h1]; simpa using h2
  exact_mod_cast this
theorem ibits_and {k : IntKind} (hk : k.signed = false) {x y : Int} (hx : 0 ≤ x ∧ x < 2 ^ k.bits) (hy : 0 ≤ y ∧ y < 2 ^ k.bits) : ibits .and k x y = ((x.toNat &&& y.toNat : Nat) : Int) := by
  unfold ibits
  simp only [BitVec.toNat_and, ofInt_toNat _ _ hx.1 hx.2, ofInt_toNat _ _ hy.1 hy.2]
  exact wrap_uns hk (by omega) (by exact_mod_cast Nat.and_lt_two_pow _ (toNat_lt hy.1 hy.2))
theorem ibits_or {k : IntKind} (hk : k.signed = false) {x y : Int} (hx : 0 ≤ x ∧ x < 2 ^ k.bits) (hy : 0 ≤ y ∧ y < 2 ^ k.bits) : ibits .or k x y = ((x.toNat ||| y.toNat : Nat) : Int) := by
  unfold ibits
  simp only [BitVec.toNat_or, ofInt_toNat _ _ hx.1 hx.2, ofInt_toNat _ _ hy.1 hy.2]
  exact wrap_uns hk (by omega) (by exact_mod_cast Nat.or_lt_two_pow (toNat_lt hx.1 hx.2) (toNat_lt hy.1 hy.2))
theorem ibits_xor {k : IntKind} (hk : k.signed = false) {x y : Int} (hx : 0 ≤ x ∧ x < 2 ^ k.bits) (hy : 0 ≤ y ∧ y < 2 ^ k.bits) : ibits .xor k x y = ((x.toNat ^^^ y.toNat : Nat) : Int) := by
  unfold ibits
  simp only [BitVec.toNat_xor, ofInt_toNat _ _ hx.1 hx.2, ofInt_toNat _ _ hy.1 hy.2]
  exact wrap_uns hk (by omega) (by exact_mod_cast Nat.xor_lt_two_pow (toNat_lt hx.1 hx.2) (toNat_lt hy.1 hy.2))
/-- Bits that do not meet. -/
theorem or_add {a b i : Nat} (h : a < 2 ^ i) : a ||| (b * 2 ^ i) = a + b * 2 ^ i := by
  rw [Nat.or_comm, Nat.mul_comm, ← Nat.two_pow_add_eq_or_of_lt h, Nat.add_comm]
theorem and127 (c : Int) (h : 0 ≤ c ∧ c < 256) : ibits .and .u8 c 127 = c % 128 := by
  rw [ibits_and rfl (by simpa [IntKind.bits] using h) (by simp [IntKind.bits])]
  have : c.toNat &&& (127 : Int).toNat = c.toNat % 2 ^ 7 := Nat.and_two_pow_sub_one_eq_mod c.toNat 7
  rw [this]; omega
theorem and127' (c : Int) (h : 0 ≤ c ∧ c < 18446744073709551616) : ibits .and .u64 c 127 = c % 128 := by
  rw [ibits_and rfl (by simpa [IntKind.bits] using h) (by simp [IntKind.bits])]
  have : c.toNat &&& (127 : Int).toNat = c.toNat % 2 ^ 7 := Nat.and_two_pow_sub_one_eq_mod c.toNat 7
  rw [this]; omega
theorem and1 (c : Int) (h : 0 ≤ c ∧ c < 18446744073709551616) : ibits .and .u64 c 1 = c % 2 := by
  rw [ibits_and rfl (by simpa [IntKind.bits] using h) (by simp [IntKind.bits])]
  have : c.toNat &&& (1 : Int).toNat = c.toNat % 2 ^ 1 := Nat.and_two_pow_sub_one_eq_mod c.toNat 1
  rw [this]; omega
theorem or128 (c : Int) (h : 0 ≤ c ∧ c < 128) : ibits .or .u8 c 128 = c + 128 := by
  rw [ibits_or rfl (by simp [IntKind.bits]; omega) (by simp [IntKind.bits])]
  have : c.toNat ||| (128 : Int).toNat = c.toNat + 1 * 2 ^ 7 := or_add (a := c.toNat) (b := 1) (i := 7) (by omega)
  rw [this]; omega
set_option maxRecDepth 100000 in
/-- A byte with its highest bit set. -/
theorem or128' (c : Int) (h : 0 ≤ c ∧ c < 256) : ibits .or .u8 c 128 = c % 128 + 128 := by
  rw [ibits_or rfl (by simp [IntKind.bits]; omega) (by simp [IntKind.bits])]
  obtain ⟨n, rfl⟩ : ∃ n : Nat, c = n := ⟨c.toNat, by omega⟩
  have hn : n < 256 := by omega
  have : n ||| 128 = n % 128 + 128 := by
    have h : ∀ m : Fin 256, m.val ||| 128 = m.val % 128 + 128 := by decide
    exact h ⟨n, hn⟩
  simp only [Int.toNat_natCast]
  show ((n ||| 128 : Nat) : Int) = _
  rw [this]; omega
theorem xor_ones (u : Int) (h : 0 ≤ u ∧ u < 18446744073709551616) : ibits .xor .u64 18446744073709551615 u = 18446744073709551615 - u := by
  rw [ibits_xor rfl (by simp [IntKind.bits]) (by simpa [IntKind.bits] using h)]
  have h1 : (18446744073709551615 : Int).toNat = 2 ^ 64 - 1 := by decide
  have h2 : u.toNat < 2 ^ 64 := by omega
  have : (2 ^ 64 - 1) ^^^ u.toNat = 2 ^ 64 - 1 - u.toNat := by
    have := BitVec.toNat_not (x := BitVec.ofNat 64 u.toNat)
    have h3 : (~~~ BitVec.ofNat 64 u.toNat) = BitVec.allOnes 64 ^^^ BitVec.ofNat 64 u.toNat := by rw [BitVec.allOnes_xor]
    rw [h3, BitVec.toNat_xor, BitVec.toNat_allOnes] at this
    simpa [Nat.mod_eq_of_lt h2] using this
  rw [h1, this]; omega
theorem xor_ones' (u : Int) (h : 0 ≤ u ∧ u < 18446744073709551616) : ibits .xor .u64 u 18446744073709551615 = 18446744073709551615 - u := by
  rw [← xor_ones u h]
  unfold ibits
  simp only [BitVec.xor_comm]
theorem xor_zero (u : Int) (h : 0 ≤ u ∧ u < 18446744073709551616) : ibits .xor .u64 u 0 = u := by
  rw [ibits_xor rfl (by simpa [IntKind.bits] using h) (by simp [IntKind.bits])]
  simp; omega
theorem xor_i64 (a : Int) (h : 0 ≤ a ∧ a < 9223372036854775808) : ibits .xor .i64 (-1) a = -1 - a := by
  have e : ibits .xor .i64 (-1) a = IntKind.wrap .i64 ((BitVec.ofInt 64 (-1) ^^^ BitVec.ofInt 64 a).toNat : Nat) := rfl
  have h1 : BitVec.ofInt 64 (-1) = BitVec.allOnes 64 := by decide
  rw [e, h1, BitVec.allOnes_xor, BitVec.toNat_not, ofInt_toNat _ _ h.1 (by omega)]
  simp only [IntKind.wrap, IntKind.bits, IntKind.signed, Bool.true_and, decide_eq_true_eq, Nat.reduceSub, Int.reducePow, ge_iff_le]
  split <;> omega
theorem xor_i64' (a : Int) (h : 0 ≤ a ∧ a < 9223372036854775808) : ibits .xor .i64 a (-1) = -1 - a := by
  rw [← xor_i64 a h]
  unfold ibits
  simp only [BitVec.xor_comm]
theorem xor_i64_zero (a : Int) (h : 0 ≤ a ∧ a < 9223372036854775808) : ibits .xor .i64 a 0 = a := by
  have e : ibits .xor .i64 a 0 = IntKind.wrap .i64 ((BitVec.ofInt 64 a ^^^ BitVec.ofInt 64 0).toNat : Nat) := rfl
  have h1 : BitVec.ofInt 64 0 = 0#64 := by decide
  rw [e, h1, BitVec.xor_zero, ofInt_toNat _ _ h.1 (by omega), Int.toNat_of_nonneg h.1]
  exact wrap_i64 (by omega) (by omega)
end Go.Ab
