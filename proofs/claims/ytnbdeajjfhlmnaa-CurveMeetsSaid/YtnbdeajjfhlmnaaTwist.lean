/-
  The curve and its twist, and a point over each number. No program in sight.
-/
import Derived.Test.YtnbdeajjfhlmnaaLadN
namespace Go.Proofs.Ytnbdeajjfhlmnaa

def kp (x : K) : Nat → K
  | 0 => 1
  | n + 1 => kp x n * x
theorem kp_add (x : K) (m n : Nat) : kp x (m + n) = kp x m * kp x n := by
  induction n with
  | zero => rw [Nat.add_zero, kp]; generalize kp x m = z; grind -lia
  | succ n ih => rw [← Nat.add_assoc, kp, ih, kp]; generalize kp x m = z; generalize kp x n = y; grind -lia
theorem kp_mul (x y : K) (n : Nat) : kp (x * y) n = kp x n * kp y n := by
  induction n with
  | zero => simp only [kp]; grind -lia
  | succ n ih => rw [kp, ih, kp, kp]; generalize kp x n = z; generalize kp y n = w; grind -lia
theorem kp_toK (n m : Nat) : kp (toK n) m = toK (n ^ m) := by
  induction m with
  | zero => rfl
  | succ m ih => rw [kp, ih, ← toK_mul, Nat.pow_succ]
theorem toK_self (x : K) : toK x.val = x := by
  apply Fin.ext
  rw [toK_val, Nat.mod_eq_of_lt x.isLt]
def H2 : Nat := 28948022309329048855892746252171976963317496166410141009864396001978282409974
theorem kp_fermat {x : K} (h : x ≠ 0) : kp x H2 * kp x H2 = 1 := by
  rw [← kp_add, ← toK_self x, kp_toK, ← toK_mod, show H2 + H2 = pp - 1 from by rw [pp_lit]; decide]
  have hd : ¬ pp ∣ x.val := fun hd => kval_ne h (Nat.mod_eq_zero_of_dvd hd)
  rw [pp_prime.fermat1 hd]
  rfl
theorem kp_num {n m x : Nat} (hf : m < 2 ^ 256) (h : pw PP 256 n m = x) : kp (toK n) m = toK x := by
  rw [kp_toK, ← toK_mod, pp_PP, pow_of hf h]
theorem neg_one : toK 57896044618658097711785492504343953926634992332820282019728792003956564819948 = -1 := by decide +kernel
/-- no square -/
theorem ns_of {d : K} (hd : kp d H2 = -1) (z w : K) (h : d * (z * z) = w * w) : z = 0 := by
  apply Classical.byContradiction
  intro hz
  have h1 : kp (d * (z * z)) H2 = kp (w * w) H2 := by rw [h]
  rw [kp_mul, kp_mul, hd, kp_fermat hz, kp_mul] at h1
  by_cases hw : w = 0
  · subst hw
    have h2 : z * z = 0 ∨ d = 0 := by
      rcases kmul_zero (show d * (z * z) = 0 by rw [h]; grind -lia) with h | h
      · exact .inr h
      · exact .inl h
    rcases h2 with h2 | h2
    · exact hz (ksq_zero h2)
    · rw [h2] at hd
      have h3 : kp 0 H2 = 0 := by rw [show H2 = 28948022309329048855892746252171976963317496166410141009864396001978282409973 + 1 from by decide, kp]; generalize kp 0 28948022309329048855892746252171976963317496166410141009864396001978282409973 = q; grind -lia
      rw [h3] at hd
      exact absurd hd (by decide)
  · rw [kp_fermat hw] at h1
    exact absurd h1 (by decide)
theorem two_half : kp (toK 2) H2 = -1 := by rw [kp_num (x := 57896044618658097711785492504343953926634992332820282019728792003956564819948) (by decide) (by decide +kernel), neg_one]
/-- a root of each number, or of its half -/
theorem root_one {w : K} (hw : kp w H2 = 1) : ∃ v, v * v = w := by
  have e4 : kp w 7237005577332262213973186563042994240829374041602535252466099000494570602494 * kp w 7237005577332262213973186563042994240829374041602535252466099000494570602494 * (kp w 7237005577332262213973186563042994240829374041602535252466099000494570602494 * kp w 7237005577332262213973186563042994240829374041602535252466099000494570602494) = w * w := by
    rw [← kp_add, ← kp_add, show 7237005577332262213973186563042994240829374041602535252466099000494570602494 + 7237005577332262213973186563042994240829374041602535252466099000494570602494 + (7237005577332262213973186563042994240829374041602535252466099000494570602494 + 7237005577332262213973186563042994240829374041602535252466099000494570602494) = H2 + 2 from by decide, kp_add, hw]
    simp only [kp]
    grind -lia
  generalize kp w 7237005577332262213973186563042994240829374041602535252466099000494570602494 = r at e4
  have h0 : (r * r - w) * (r * r + w) = 0 := by grind -lia
  rcases kmul_zero h0 with h | h
  · exact ⟨r, by grind -lia⟩
  · have hi : kp (toK 2) 14474011154664524427946373126085988481658748083205070504932198000989141204987 * kp (toK 2) 14474011154664524427946373126085988481658748083205070504932198000989141204987 = -1 := by rw [← kp_add, show 14474011154664524427946373126085988481658748083205070504932198000989141204987 + 14474011154664524427946373126085988481658748083205070504932198000989141204987 = H2 from by decide, two_half]
    generalize kp (toK 2) 14474011154664524427946373126085988481658748083205070504932198000989141204987 = i at hi
    exact ⟨i * r, by grind -lia⟩
theorem root_any {w : K} (h : w ≠ 0) : ∃ v, v * v = w ∨ 2 * (v * v) = w := by
  have h1 := kp_fermat h
  have h2 : (kp w H2 - 1) * (kp w H2 + 1) = 0 := by
    generalize kp w H2 = t at h1
    grind -lia
  rcases kmul_zero h2 with h3 | h3
  · obtain ⟨v, hv⟩ := root_one (w := w) (by generalize kp w H2 = t at h3; grind -lia)
    exact ⟨v, .inl hv⟩
  · have ht : kp w H2 = -1 := by generalize kp w H2 = t at h3; grind -lia
    have e2 : toK 2 = 2 := rfl
    have hk := mul_kinv two_ne
    have hh : kp (kinv 2) H2 = -1 := by
      have : kp (2 * kinv 2) H2 = -1 * kp (kinv 2) H2 := by rw [kp_mul, ← e2, two_half]
      rw [hk] at this
      have h1' : kp 1 H2 = 1 := by rw [show (1 : K) = toK 1 from rfl, kp_num (x := 1) (by decide) (by decide +kernel)]
      rw [h1'] at this
      generalize kp (kinv 2) H2 = q at this
      grind -lia
    obtain ⟨v, hv⟩ := root_one (w := w * kinv 2) (by rw [kp_mul, ht, hh]; grind -lia)
    refine ⟨v, .inr ?_⟩
    rw [hv]
    generalize kinv 2 = q at hk
    grind -lia
def C1 : Crv := ⟨toK 486664, toK 486660, toK 48802004052532134862652268456126542835229456083994414501085850622543968879637, by decide +kernel, ns_of (by rw [kp_num (x := 57896044618658097711785492504343953926634992332820282019728792003956564819948) (by decide) (by decide +kernel), neg_one]), by decide +kernel⟩
def C2 : Crv := ⟨toK 243330, toK 243332, toK 51433253462520500264212897900760618405213415304451317506555883227270826074491, by decide +kernel, ns_of (by rw [kp_num (x := 57896044618658097711785492504343953926634992332820282019728792003956564819948) (by decide) (by decide +kernel), neg_one]), by decide +kernel⟩
def T1 : Fam C1 := ⟨⟨toK 121665, by decide +kernel, by decide +kernel⟩, 1, .inl ⟨rfl, rfl⟩⟩
def T2 : Fam C2 := ⟨⟨-(toK 121665 + 1), by decide +kernel, by decide +kernel⟩, -1, .inr ⟨rfl, rfl⟩⟩
end Go.Proofs.Ytnbdeajjfhlmnaa
