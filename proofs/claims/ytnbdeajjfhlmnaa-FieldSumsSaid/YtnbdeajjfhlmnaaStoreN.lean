/-
  What (limbs).store hands back, as a number: the sum of the limbs, less the modulus as often as it goes. No program in sight.
-/
import Derived.Test.YtnbdeajjfhlmnaaMul
namespace Go.Proofs.Ytnbdeajjfhlmnaa
open Go.RowKit

/-- the carry out of limb k, of the number and 19 -/
def qTo (c : L5) : Nat → Nat
  | 0 => (c.a0 + 19) / 2251799813685248
  | k + 1 => (c.get (k + 1) + qTo c k) / 2251799813685248
/-- the limbs after k rounds of the second loop -/
def dTo (c : L5) : Nat → L5
  | 0 => c
  | k + 1 => ((dTo c k).set (k + 1) ((dTo c k).get (k + 1) + (dTo c k).get k / 2251799813685248)).set k
      (((dTo c k).set (k + 1) ((dTo c k).get (k + 1) + (dTo c k).get k / 2251799813685248)).get k % 2251799813685248)

structure Snug (x : L5) : Prop where
  h0 : x.a0 < 2251799813685268
  h1 : x.a1 < 2251799813685250
  h2 : x.a2 < 2251799813685250
  h3 : x.a3 < 2251799813685250
  h4 : x.a4 < 2251799813685250
theorem carry_snug {x : L5} (h : W5 x) : Snug (carryL (carryL x)) := by
  obtain ⟨h0, h1, h2, h3, h4⟩ := h
  refine ⟨?_, ?_, ?_, ?_, ?_⟩ <;> simp only [carryL] <;> omega

def lastL (c : L5) (q : Nat) : L5 := let d := dTo (c.set 0 (c.a0 + 19 * q)) 4; d.set 4 (d.get 4 % 2251799813685248)

theorem Snug.qle {c : L5} (h : Snug c) (k : Nat) (hk : k ≤ 4) : qTo c k ≤ 1 := by
  obtain ⟨h0, h1, h2, h3, h4⟩ := h
  have : k = 0 ∨ k = 1 ∨ k = 2 ∨ k = 3 ∨ k = 4 := by omega
  rcases this with rfl | rfl | rfl | rfl | rfl <;> simp only [qTo, L5.get] <;> omega
theorem Snug.get {c : L5} (h : Snug c) (k : Nat) : c.get k < 2251799813685268 := by
  obtain ⟨h0, h1, h2, h3, h4⟩ := h
  match k with
  | 0 => simp only [L5.get]; omega
  | 1 => simp only [L5.get]; omega
  | 2 => simp only [L5.get]; omega
  | 3 => simp only [L5.get]; omega
  | n + 4 => simp only [L5.get]; omega
/-- loose for the second loop -/
structure Trim (x : L5) : Prop where
  h0 : x.a0 < 4503599627370496
  h1 : x.a1 < 4503599627370496
  h2 : x.a2 < 4503599627370496
  h3 : x.a3 < 4503599627370496
  h4 : x.a4 < 4503599627370496
theorem dTo1 (c : L5) : dTo c 1 = ⟨c.a0 % 2251799813685248, c.a1 + c.a0 / 2251799813685248, c.a2, c.a3, c.a4⟩ := by simp [dTo, L5.set, L5.get]
theorem dTo2 (c : L5) : dTo c 2 = ⟨c.a0 % 2251799813685248, (c.a1 + c.a0 / 2251799813685248) % 2251799813685248, c.a2 + (c.a1 + c.a0 / 2251799813685248) / 2251799813685248, c.a3, c.a4⟩ := by
  rw [dTo, dTo1]; simp [L5.set, L5.get]
theorem dTo3 (c : L5) : dTo c 3 = ⟨c.a0 % 2251799813685248, (c.a1 + c.a0 / 2251799813685248) % 2251799813685248, (c.a2 + (c.a1 + c.a0 / 2251799813685248) / 2251799813685248) % 2251799813685248,
    c.a3 + (c.a2 + (c.a1 + c.a0 / 2251799813685248) / 2251799813685248) / 2251799813685248, c.a4⟩ := by
  rw [dTo, dTo2]; simp [L5.set, L5.get]
theorem dTo4 (c : L5) : dTo c 4 = ⟨c.a0 % 2251799813685248, (c.a1 + c.a0 / 2251799813685248) % 2251799813685248, (c.a2 + (c.a1 + c.a0 / 2251799813685248) / 2251799813685248) % 2251799813685248,
    (c.a3 + (c.a2 + (c.a1 + c.a0 / 2251799813685248) / 2251799813685248) / 2251799813685248) % 2251799813685248,
    c.a4 + (c.a3 + (c.a2 + (c.a1 + c.a0 / 2251799813685248) / 2251799813685248) / 2251799813685248) / 2251799813685248⟩ := by
  rw [dTo, dTo3]; simp [L5.set, L5.get]
theorem dTo_get {c : L5} (h : ∀ k, c.get k < 4503599627370496) (k : Nat) (hk : k ≤ 4) (j : Nat) : (dTo c k).get j < 9007199254740992 := by
  have h0 := h 0; have h1 := h 1; have h2 := h 2; have h3 := h 3; have h4 := h 4
  simp only [L5.get] at h0 h1 h2 h3 h4
  have : k = 0 ∨ k = 1 ∨ k = 2 ∨ k = 3 ∨ k = 4 := by omega
  have hj : j = 0 ∨ j = 1 ∨ j = 2 ∨ j = 3 ∨ ∃ n, j = n + 4 := by
    rcases Nat.lt_or_ge j 4 with h | h
    · omega
    · exact .inr (.inr (.inr (.inr ⟨j - 4, by omega⟩)))
  rcases this with rfl | rfl | rfl | rfl | rfl
  · have := h j
    simp only [dTo]; omega
  · rw [dTo1]; rcases hj with rfl | rfl | rfl | rfl | ⟨n, rfl⟩ <;> simp only [L5.get] <;> omega
  · rw [dTo2]; rcases hj with rfl | rfl | rfl | rfl | ⟨n, rfl⟩ <;> simp only [L5.get] <;> omega
  · rw [dTo3]; rcases hj with rfl | rfl | rfl | rfl | ⟨n, rfl⟩ <;> simp only [L5.get] <;> omega
  · rw [dTo4]; rcases hj with rfl | rfl | rfl | rfl | ⟨n, rfl⟩ <;> simp only [L5.get] <;> omega

/-- limbs below 2^51 -/
structure Tight (x : L5) : Prop where
  h0 : x.a0 < 2251799813685248
  h1 : x.a1 < 2251799813685248
  h2 : x.a2 < 2251799813685248
  h3 : x.a3 < 2251799813685248
  h4 : x.a4 < 2251799813685248
theorem lastL_eq (c : L5) (q : Nat) : lastL c q = ⟨(c.a0 + 19 * q) % 2251799813685248, (c.a1 + (c.a0 + 19 * q) / 2251799813685248) % 2251799813685248, (c.a2 + (c.a1 + (c.a0 + 19 * q) / 2251799813685248) / 2251799813685248) % 2251799813685248,
    (c.a3 + (c.a2 + (c.a1 + (c.a0 + 19 * q) / 2251799813685248) / 2251799813685248) / 2251799813685248) % 2251799813685248,
    (c.a4 + (c.a3 + (c.a2 + (c.a1 + (c.a0 + 19 * q) / 2251799813685248) / 2251799813685248) / 2251799813685248) / 2251799813685248) % 2251799813685248⟩ := by
  simp only [lastL]
  rw [dTo4]
  simp [L5.set, L5.get]
theorem lastL_tight (c : L5) (q : Nat) : Tight (lastL c q) := by
  rw [lastL_eq]
  exact ⟨Nat.mod_lt _ (by decide), Nat.mod_lt _ (by decide), Nat.mod_lt _ (by decide), Nat.mod_lt _ (by decide), Nat.mod_lt _ (by decide)⟩

def M255 : Nat := 57896044618658097711785492504343953926634992332820282019728792003956564819968
theorem p51_102 : (2 : Nat) ^ 102 = 2251799813685248 * 2251799813685248 := by decide
theorem q_eq {c : L5} (h : Snug c) : qTo c 4 = (lval c + 19) / M255 := by
  obtain ⟨h0, h1, h2, h3, h4⟩ := h
  simp only [qTo, L5.get, lval, M255, show (2 : Nat) ^ 51 = 2251799813685248 from rfl, show (2 : Nat) ^ 102 = 5070602400912917605986812821504 from by decide,
    show (2 : Nat) ^ 153 = 11417981541647679048466287755595961091061972992 from by decide, show (2 : Nat) ^ 204 = 25711008708143844408671393477458601640355247900524685364822016 from by decide]
  omega
theorem last_val (c : L5) (q : Nat) : lval (lastL c q) = (lval c + 19 * q) % M255 := by
  rw [lastL_eq]
  simp only [lval, M255, show (2 : Nat) ^ 51 = 2251799813685248 from rfl, show (2 : Nat) ^ 102 = 5070602400912917605986812821504 from by decide,
    show (2 : Nat) ^ 153 = 11417981541647679048466287755595961091061972992 from by decide, show (2 : Nat) ^ 204 = 25711008708143844408671393477458601640355247900524685364822016 from by decide]
  omega
theorem Snug.val {c : L5} (h : Snug c) : lval c < 2 * pp := by
  obtain ⟨h0, h1, h2, h3, h4⟩ := h
  simp only [lval, show pp = 57896044618658097711785492504343953926634992332820282019728792003956564819949 from by decide, show (2 : Nat) ^ 51 = 2251799813685248 from rfl, show (2 : Nat) ^ 102 = 5070602400912917605986812821504 from by decide,
    show (2 : Nat) ^ 153 = 11417981541647679048466287755595961091061972992 from by decide, show (2 : Nat) ^ 204 = 25711008708143844408671393477458601640355247900524685364822016 from by decide]
  omega
theorem carry_mod (x : L5) : lval (carryL x) % pp = lval x % pp := by
  have e : lval (carryL x) + pp * (x.a4 / 2251799813685248) = lval x := by
    simp only [carryL, lval, show pp = 57896044618658097711785492504343953926634992332820282019728792003956564819949 from by decide, show (2 : Nat) ^ 51 = 2251799813685248 from rfl, show (2 : Nat) ^ 102 = 5070602400912917605986812821504 from by decide,
      show (2 : Nat) ^ 153 = 11417981541647679048466287755595961091061972992 from by decide, show (2 : Nat) ^ 204 = 25711008708143844408671393477458601640355247900524685364822016 from by decide]
    omega
  rw [← e, Nat.add_mul_mod_self_left]
theorem store_val (x : L5) (h : W5 x) : lval (lastL (carryL (carryL x)) (qTo (carryL (carryL x)) 4)) = lval x % pp := by
  have hs := carry_snug h
  have hv := hs.val
  have hq := q_eq hs
  rw [← carry_mod x, ← carry_mod (carryL x), last_val, hq]
  generalize lval (carryL (carryL x)) = v at *
  clear hq hs
  simp only [M255, show pp = 57896044618658097711785492504343953926634992332820282019728792003956564819949 from by decide] at *
  rcases Nat.lt_or_ge v 57896044618658097711785492504343953926634992332820282019728792003956564819949 with h | h
  · have e : v % 57896044618658097711785492504343953926634992332820282019728792003956564819949 = v := Nat.mod_eq_of_lt h
    have q : (v + 19) / 57896044618658097711785492504343953926634992332820282019728792003956564819968 = 0 := by omega
    rw [e, q]; omega
  · have e : v % 57896044618658097711785492504343953926634992332820282019728792003956564819949 = v - 57896044618658097711785492504343953926634992332820282019728792003956564819949 := by
      rw [Nat.mod_eq_sub_mod h]; exact Nat.mod_eq_of_lt (by omega)
    have q : (v + 19) / 57896044618658097711785492504343953926634992332820282019728792003956564819968 = 1 := by omega
    rw [e, q]; omega

/-! ### the four words -/
theorem word0 {z : L5} (h : Tight z) : bits .or .u64 (z.a0 : Int) ((z.a1 * 2 ^ 51 % 18446744073709551616 : Nat) : Int) = ((wordN (lval z) 0 : Nat) : Int) := by
  obtain ⟨h0, h1, h2, h3, h4⟩ := h
  rw [u64_joined z.a0 z.a1 51 h0 (by decide) (Nat.mod_lt _ (by decide)) (by omega)]
  congr 1
  simp only [wordN, lval, show (256 : Nat) ^ 0 = 1 from rfl, show (2 : Nat) ^ 51 = 2251799813685248 from rfl, show (2 : Nat) ^ 102 = 5070602400912917605986812821504 from by decide,
    show (2 : Nat) ^ 153 = 11417981541647679048466287755595961091061972992 from by decide, show (2 : Nat) ^ 204 = 25711008708143844408671393477458601640355247900524685364822016 from by decide]
  omega
theorem word1 {z : L5} (h : Tight z) : bits .or .u64 ((z.a1 / 2 ^ 13 : Nat) : Int) ((z.a2 * 2 ^ 38 % 18446744073709551616 : Nat) : Int) = ((wordN (lval z) 8 : Nat) : Int) := by
  obtain ⟨h0, h1, h2, h3, h4⟩ := h
  rw [u64_joined (z.a1 / 2 ^ 13) z.a2 38 (by omega) (by decide) (Nat.mod_lt _ (by decide)) (by omega)]
  congr 1
  simp only [wordN, lval, show (256 : Nat) ^ 8 = 18446744073709551616 from by decide, show (2 : Nat) ^ 51 = 2251799813685248 from rfl, show (2 : Nat) ^ 102 = 5070602400912917605986812821504 from by decide,
    show (2 : Nat) ^ 153 = 11417981541647679048466287755595961091061972992 from by decide, show (2 : Nat) ^ 204 = 25711008708143844408671393477458601640355247900524685364822016 from by decide]
  omega
theorem word2 {z : L5} (h : Tight z) : bits .or .u64 ((z.a2 / 2 ^ 26 : Nat) : Int) ((z.a3 * 2 ^ 25 % 18446744073709551616 : Nat) : Int) = ((wordN (lval z) 16 : Nat) : Int) := by
  obtain ⟨h0, h1, h2, h3, h4⟩ := h
  rw [u64_joined (z.a2 / 2 ^ 26) z.a3 25 (by omega) (by decide) (Nat.mod_lt _ (by decide)) (by omega)]
  congr 1
  simp only [wordN, lval, show (256 : Nat) ^ 16 = 340282366920938463463374607431768211456 from by decide, show (2 : Nat) ^ 51 = 2251799813685248 from rfl, show (2 : Nat) ^ 102 = 5070602400912917605986812821504 from by decide,
    show (2 : Nat) ^ 153 = 11417981541647679048466287755595961091061972992 from by decide, show (2 : Nat) ^ 204 = 25711008708143844408671393477458601640355247900524685364822016 from by decide]
  omega
theorem word3 {z : L5} (h : Tight z) : bits .or .u64 ((z.a3 / 2 ^ 39 : Nat) : Int) ((z.a4 * 2 ^ 12 % 18446744073709551616 : Nat) : Int) = ((wordN (lval z) 24 : Nat) : Int) := by
  obtain ⟨h0, h1, h2, h3, h4⟩ := h
  rw [u64_joined (z.a3 / 2 ^ 39) z.a4 12 (by omega) (by decide) (Nat.mod_lt _ (by decide)) (by omega)]
  congr 1
  simp only [wordN, lval, show (256 : Nat) ^ 24 = 6277101735386680763835789423207666416102355444464034512896 from by decide, show (2 : Nat) ^ 51 = 2251799813685248 from rfl, show (2 : Nat) ^ 102 = 5070602400912917605986812821504 from by decide,
    show (2 : Nat) ^ 153 = 11417981541647679048466287755595961091061972992 from by decide, show (2 : Nat) ^ 204 = 25711008708143844408671393477458601640355247900524685364822016 from by decide]
  omega

theorem byteOf_putTo (n at_ v k i : Nat) (hi : i < 32) : byteOf (putTo n at_ v k) i = if at_ ≤ i ∧ i < at_ + k then v / 256 ^ (i - at_) % 256 else byteOf n i := by
  induction k with
  | zero => rw [putTo, if_neg (by omega)]
  | succ k ih =>
    rw [putTo, byteOf_setByte _ _ _ _ (Nat.mod_lt _ (by decide)) hi, ih]
    by_cases h : i = at_ + k
    · subst h
      rw [if_pos rfl, if_pos (by omega), show at_ + k - at_ = k by omega]
    · rw [if_neg h]
      by_cases h2 : at_ ≤ i ∧ i < at_ + k
      · rw [if_pos h2, if_pos (by omega)]
      · rw [if_neg h2, if_neg (by omega)]
theorem word_byte (n at_ j : Nat) (hj : j < 8) : wordN n at_ / 256 ^ j % 256 = byteOf n (at_ + j) := by
  have e := wordN_ofB n at_
  have := ofB_byte (fun k => byteOf n (at_ + k)) 8 (fun i _ => byteOf_lt _ _) j hj
  rw [e] at this
  exact this
theorem putTo_lt (n at_ v : Nat) : putTo n at_ v 8 < 2 ^ 256 := setByte_lt _ _ _ (Nat.mod_lt _ (by decide))
theorem put_all (m n : Nat) (hn : n < 2 ^ 256) : putTo (putTo (putTo (putTo m 0 (wordN n 0) 8) 8 (wordN n 8) 8) 16 (wordN n 16) 8) 24 (wordN n 24) 8 = n := by
  refine byte_ext (putTo_lt _ _ _) hn fun i hi => ?_
  rw [byteOf_putTo _ _ _ _ _ hi, byteOf_putTo _ _ _ _ _ hi, byteOf_putTo _ _ _ _ _ hi, byteOf_putTo _ _ _ _ _ hi]
  by_cases h3 : 24 ≤ i
  · rw [if_pos (by omega), word_byte _ _ _ (by omega)]; congr 1; omega
  rw [if_neg (by omega)]
  by_cases h2 : 16 ≤ i
  · rw [if_pos (by omega), word_byte _ _ _ (by omega)]; congr 1; omega
  rw [if_neg (by omega)]
  by_cases h1 : 8 ≤ i
  · rw [if_pos (by omega), word_byte _ _ _ (by omega)]; congr 1; omega
  rw [if_neg (by omega), if_pos (by omega), word_byte _ _ _ (by omega)]; congr 1; omega
theorem pp_lt (n : Nat) : n % pp < 2 ^ 256 := Nat.lt_of_lt_of_le (Nat.mod_lt _ (by decide)) (by decide)
end Go.Proofs.Ytnbdeajjfhlmnaa
