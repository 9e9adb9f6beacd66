/-
  Numbers in limbs of 16 bits: what carrying leaves. No program in sight.
-/
import Derived.Test.YtnbdeajjfhlmnaaInts
import Derived.Test.YtnbdeajjfhlmnaaFieldN
namespace Go.Proofs.Ytnbdeajjfhlmnaa
open Go.RowKit

def valN (f : Nat → Nat) : Nat → Nat
  | 0 => 0
  | k + 1 => valN f k + f k * 65536 ^ k
theorem valN_congr {f g : Nat → Nat} (k : Nat) (h : ∀ j, j < k → f j = g j) : valN f k = valN g k := by
  induction k with
  | zero => rfl
  | succ k ih => rw [valN, valN, ih (fun j hj => h j (by omega)), h k (by omega)]
theorem valN_lt {f : Nat → Nat} (k : Nat) (h : ∀ j, j < k → f j < 65536) : valN f k < 65536 ^ k := by
  induction k with
  | zero => exact Nat.zero_lt_one
  | succ k ih =>
    have h1 := ih (fun j hj => h j (by omega))
    have h2 := Nat.mul_le_mul_right (65536 ^ k) (show f k ≤ 65535 by have := h k (by omega); omega)
    rw [valN, Nat.pow_succ]
    omega

/-! ### carrying -/
def cutL (f : Nat → Nat) (L : Nat) : Nat → Nat := fun j => if j < L then f j else 0
def carN (f : Nat → Nat) : Nat → Nat
  | 0 => 0
  | k + 1 => (carN f k + f k) / 65536
def digN (f : Nat → Nat) (k : Nat) : Nat := (carN f k + f k) % 65536
theorem digN_lt (f : Nat → Nat) (k : Nat) : digN f k < 65536 := Nat.mod_lt _ (by decide)
theorem carN_lt {f : Nat → Nat} (h : ∀ j, f j < 1099511627776) (k : Nat) : carN f k < 33554432 := by
  induction k with
  | zero => exact Nat.zero_lt_succ _
  | succ k ih =>
    have := h k
    rw [carN]
    omega
theorem carN_val (f : Nat → Nat) (k : Nat) : valN (digN f) k + carN f k * 65536 ^ k = valN f k := by
  induction k with
  | zero => simp [valN, carN]
  | succ k ih =>
    have e : (carN f k + f k) % 65536 * 65536 ^ k + (carN f k + f k) / 65536 * 65536 ^ (k + 1) = (carN f k + f k) * 65536 ^ k := by
      rw [Nat.pow_succ, Nat.mul_comm (65536 ^ k) 65536, ← Nat.mul_assoc, ← Nat.add_mul, Nat.mod_add_div']
    rw [valN, valN, carN, digN, Nat.add_assoc, e, Nat.add_mul, ← Nat.add_assoc, ih]
def lenN (f : Nat → Nat) (L : Nat) : Nat := if carN f L = 0 then L else if carN f (L + 1) = 0 then L + 1 else L + 2
theorem lenN_ge (f : Nat → Nat) (L : Nat) : L ≤ lenN f L := by
  unfold lenN
  split
  · omega
  · split <;> omega
theorem lenN_le (f : Nat → Nat) (L : Nat) : lenN f L ≤ L + 2 := by
  unfold lenN
  split
  · omega
  · split <;> omega
theorem cutL_lt {f : Nat → Nat} {L : Nat} (h : ∀ j, j < L → f j < 1099511627776) (j : Nat) : cutL f L j < 1099511627776 := by
  unfold cutL
  split
  · exact h j (by assumption)
  · decide
theorem carN_end {f : Nat → Nat} {L : Nat} (h : ∀ j, j < L → f j < 1099511627776) : carN (cutL f L) (lenN (cutL f L) L) = 0 := by
  unfold lenN
  split
  · assumption
  · split
    · assumption
    · have h1 := carN_lt (cutL_lt h) L
      have e0 : cutL f L L = 0 := by simp [cutL]
      have e1 : cutL f L (L + 1) = 0 := by unfold cutL; rw [if_neg (by omega)]
      rw [carN, carN, e0, e1]
      omega
theorem carN_go {f : Nat → Nat} {L k : Nat} (h1 : L ≤ k) (h2 : k < lenN f L) : 0 < carN f k := by
  unfold lenN at h2
  split at h2
  · omega
  · split at h2
    · obtain rfl : k = L := by omega
      omega
    · have : k = L ∨ k = L + 1 := by omega
      rcases this with rfl | rfl <;> omega
theorem valN_cut (f : Nat → Nat) (L m : Nat) (h : L ≤ m) : valN (cutL f L) m = valN f L := by
  induction m with
  | zero => obtain rfl : L = 0 := by omega
            rfl
  | succ m ih =>
    by_cases hm : L ≤ m
    · have e : cutL f L m = 0 := by simp [cutL]; omega
      rw [valN, ih hm, e, Nat.zero_mul, Nat.add_zero]
    · obtain rfl : L = m + 1 := by omega
      exact valN_congr _ fun j hj => by simp [cutL, hj]
/-- the value stays -/
theorem dig_val {f : Nat → Nat} {L : Nat} (h : ∀ j, j < L → f j < 1099511627776) : valN (digN (cutL f L)) (lenN (cutL f L) L) = valN f L := by
  have := carN_val (cutL f L) (lenN (cutL f L) L)
  rw [carN_end h, Nat.zero_mul, Nat.add_zero] at this
  rw [this, valN_cut _ _ _ (lenN_ge _ _)]
/-- no limb more than the value asks for -/
theorem lenN_small {f : Nat → Nat} {L m : Nat} (hv : valN f L < 65536 ^ m) (hm : L ≤ m) : lenN (cutL f L) L ≤ m := by
  apply Nat.le_of_not_lt
  intro hlt
  have h1 := carN_go (k := m) hm hlt
  have h2 := carN_val (cutL f L) m
  rw [valN_cut _ _ _ hm] at h2
  have := Nat.mul_le_mul_right (65536 ^ m) h1
  omega
def digF (f : Nat → Nat) (k : Nat) : Nat → Nat := fun j => if j < k then digN f j else 0
theorem digF_step (f : Nat → Nat) (k : Nat) : updF (digF f k) k (digN f k) = digF f (k + 1) := by
  funext j
  simp only [updF, digF]
  by_cases h : j = k
  · subst h; simp
  · by_cases h2 : j < k
    · rw [if_neg h, if_pos h2, if_pos (by omega)]
    · rw [if_neg h, if_neg h2, if_neg (by omega)]
theorem valN_digF (f : Nat → Nat) (k : Nat) : valN (digF f k) k = valN (digN f) k := valN_congr k fun j hj => by simp [digF, hj]
theorem digF_lt (f : Nat → Nat) (k j : Nat) : digF f k j < 65536 := by
  unfold digF
  split
  · exact digN_lt f j
  · decide

/-! ### bytes to limbs -/
def limbN (n j : Nat) : Nat := byteOf n (2 * j) + 256 * byteOf n (2 * j + 1)
def limF (n k : Nat) : Nat → Nat := fun j => if j < k then limbN n j else 0
theorem limbN_lt (n j : Nat) : limbN n j < 65536 := by
  have := byteOf_lt n (2 * j)
  have := byteOf_lt n (2 * j + 1)
  unfold limbN
  omega
theorem limF_step (n k : Nat) : updF (limF n k) k (limbN n k) = limF n (k + 1) := by
  funext j
  simp only [updF, limF]
  by_cases h : j = k
  · subst h; simp
  · by_cases h2 : j < k
    · rw [if_neg h, if_pos h2, if_pos (by omega)]
    · rw [if_neg h, if_neg h2, if_neg (by omega)]
theorem limbN_eq (n j : Nat) : limbN n j = n / 65536 ^ j % 65536 := by
  have e1 : (256 : Nat) ^ (2 * j) = 65536 ^ j := by rw [Nat.pow_mul]
  have e2 : (256 : Nat) ^ (2 * j + 1) = 65536 ^ j * 256 := by rw [Nat.pow_succ, e1]
  rw [limbN, byteOf, byteOf, e1, e2, ← Nat.div_div_eq_div_mul]
  omega
theorem valN_limb (n k : Nat) : valN (limbN n) k = n % 65536 ^ k := by
  induction k with
  | zero => simp [valN, Nat.mod_one]
  | succ k ih => rw [valN, ih, limbN_eq, Nat.pow_succ, Nat.mod_mul, Nat.mul_comm]
theorem valN_limF {n : Nat} (hn : n < 2 ^ 256) : valN (limF n 16) 16 = n := by
  rw [valN_congr (g := limbN n) 16 (fun j hj => by simp [limF, hj]), valN_limb]
  exact Nat.mod_eq_of_lt (by rw [show (65536 : Nat) ^ 16 = 2 ^ 256 by decide]; exact hn)
theorem limF_lt (n k j : Nat) : limF n k j < 65536 := by
  unfold limF
  split
  · exact limbN_lt n j
  · decide
end Go.Proofs.Ytnbdeajjfhlmnaa
