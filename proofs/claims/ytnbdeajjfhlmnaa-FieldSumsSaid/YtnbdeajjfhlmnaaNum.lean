/-
  Plain numbers: limbs, words, bits of words. No program in sight.
-/
import Derived.Test.YtnbdeajjfhlmnaaFacts
namespace Go.Proofs.Ytnbdeajjfhlmnaa
open Go.RowKit

def pp : Nat := 2 ^ 255 - 19
def W64 (x : Nat) : Prop := x < 18446744073709551616
structure W5 (x : L5) : Prop where
  h0 : x.a0 < 18446744073709551616
  h1 : x.a1 < 18446744073709551616
  h2 : x.a2 < 18446744073709551616
  h3 : x.a3 < 18446744073709551616
  h4 : x.a4 < 18446744073709551616
/-- below 2^52 each -/
structure Loose (x : L5) : Prop where
  h0 : x.a0 < 4503599627370496
  h1 : x.a1 < 4503599627370496
  h2 : x.a2 < 4503599627370496
  h3 : x.a3 < 4503599627370496
  h4 : x.a4 < 4503599627370496
theorem Loose.w5 {x : L5} (h : Loose x) : W5 x := ⟨by have := h.h0; omega, by have := h.h1; omega, by have := h.h2; omega, by have := h.h3; omega, by have := h.h4; omega⟩

def lval (x : L5) : Nat := x.a0 + x.a1 * 2 ^ 51 + x.a2 * 2 ^ 102 + x.a3 * 2 ^ 153 + x.a4 * 2 ^ 204

/-- the word that begins at a byte -/
def wordN (n at_ : Nat) : Nat := n / 256 ^ at_ % 18446744073709551616
theorem wordN_lt (n at_ : Nat) : wordN n at_ < 18446744073709551616 := Nat.mod_lt _ (by decide)

theorem wordN_ofB (n at_ : Nat) : ofB (fun k => byteOf n (at_ + k)) 8 = wordN n at_ := by
  have : (fun k => byteOf n (at_ + k)) = byteOf (n / 256 ^ at_) := by
    funext k
    simp only [byteOf]
    rw [Nat.div_div_eq_div_mul, ← Nat.pow_add]
  rw [this, ofB_self]
  rfl

/-- 'carry' -/
def carryL (x : L5) : L5 :=
  ⟨x.a0 % 2251799813685248 + 19 * (x.a4 / 2251799813685248), x.a1 % 2251799813685248 + x.a0 / 2251799813685248, x.a2 % 2251799813685248 + x.a1 / 2251799813685248,
   x.a3 % 2251799813685248 + x.a2 / 2251799813685248, x.a4 % 2251799813685248 + x.a3 / 2251799813685248⟩
theorem carry_loose {x : L5} (h : W5 x) : Loose (carryL x) := by
  obtain ⟨h0, h1, h2, h3, h4⟩ := h
  refine ⟨?_, ?_, ?_, ?_, ?_⟩ <;> simp only [carryL] <;> omega

/-- 'load' -/
def loadL (n : Nat) : L5 :=
  ⟨n % 2251799813685248 + 19 * (n / 2 ^ 255), n / 2 ^ 51 % 2251799813685248, n / 2 ^ 102 % 2251799813685248, n / 2 ^ 153 % 2251799813685248, n / 2 ^ 204 % 2251799813685248⟩
theorem load_loose {n : Nat} (h : n < 2 ^ 256) : Loose (loadL n) := by
  have h255 : n / 2 ^ 255 < 2 := by
    rw [Nat.div_lt_iff_lt_mul (by decide)]
    exact Nat.lt_of_lt_of_le h (by decide)
  refine ⟨?_, ?_, ?_, ?_, ?_⟩ <;> simp only [loadL] <;> omega

/-! ### bits of words -/
theorem and_mask51 (x : Nat) : x &&& 2251799813685247 = x % 2251799813685248 := Nat.and_two_pow_sub_one_eq_mod x 51
theorem or_join (i a b : Nat) (h : a < 2 ^ i) : a ||| b * 2 ^ i = a + b * 2 ^ i := by
  rw [Nat.or_comm, nat_join i (b * 2 ^ i) a (Nat.mul_mod_left _ _) h, Nat.add_comm]

theorem u64_and51 (x : Nat) (h : x < 18446744073709551616) : bits .and .u64 (x : Int) 2251799813685247 = ((x % 2251799813685248 : Nat) : Int) := by
  have := u64_and_nat x 2251799813685247 h (by decide)
  rw [and_mask51] at this
  exact this

theorem u64_joined (a b i : Nat) (ha : a < 2 ^ i) (hi : 2 ^ i ≤ 18446744073709551616) (hb : b * 2 ^ i % 18446744073709551616 < 18446744073709551616) (hm : b * 2 ^ i % 18446744073709551616 % 2 ^ i = 0) :
    bits .or .u64 (a : Int) ((b * 2 ^ i % 18446744073709551616 : Nat) : Int) = ((a + b * 2 ^ i % 18446744073709551616 : Nat) : Int) := by
  rw [u64_or_nat a _ (by omega) hb]
  congr 1
  rw [Nat.or_comm, nat_join i _ a hm ha, Nat.add_comm]

end Go.Proofs.Ytnbdeajjfhlmnaa
