/-
  The ladder over numbers is the ladder over the group. No program in sight.
-/
import Derived.Test.YtnbdeajjfhlmnaaLadK
import Derived.Test.YtnbdeajjfhlmnaaCurveN
namespace Go.Proofs.Ytnbdeajjfhlmnaa

def toK (n : Nat) : K := Fin.ofNat PP n
theorem toK_val (n : Nat) : (toK n).val = n % PP := rfl
theorem toK_mod (n : Nat) : toK (n % pp) = toK n := by
  apply Fin.ext
  rw [toK_val, toK_val, pp_PP, Nat.mod_mod]
theorem toK_mul (n m : Nat) : toK (n * m) = toK n * toK m := by
  apply Fin.ext
  rw [Fin.val_mul, toK_val, toK_val, toK_val, ← Nat.mul_mod]
theorem toK_add (n m : Nat) : toK (n + m) = toK n + toK m := by
  apply Fin.ext
  rw [Fin.val_add, toK_val, toK_val, toK_val, ← Nat.add_mod]
theorem toK_pp : toK pp = 0 := by
  apply Fin.ext
  rw [toK_val, pp_PP, Nat.mod_self]
  rfl
theorem toK_sub (n m : Nat) : toK (subP n m) = toK n - toK m := by
  have hl : m % pp ≤ pp := Nat.le_of_lt (Nat.mod_lt _ (by decide))
  have h1 : toK (pp - m % pp) + toK m = 0 := by
    rw [← toK_mod m, ← toK_add, Nat.sub_add_cancel hl, toK_pp]
  rw [subP, toK_mod, toK_add]
  generalize toK (pp - m % pp) = z at *
  generalize toK m = y at *
  generalize toK n = x at *
  grind -lia
theorem toK_zero {n : Nat} (h : toK n = 0) : n % pp = 0 := by
  have := congrArg Fin.val h
  rw [pp_PP]
  exact this
/-- a number's pair stands for a point, of the curve (e = 1) or of the twist (e = -1) -/
def Rn (e : K) (X Z : Nat) (y : K) : Prop := Rp (toK X) (e * toK Z) y
structure Fam (C : Crv) where
  D : Cst C
  e : K
  he : (e = 1 ∧ D.c = toK 121665) ∨ (e = -1 ∧ D.c = -(toK 121665 + 1))
theorem step_dbl {C : Crv} (T : Fam C) (u : Nat) (q : Q4) (P : Pt C) (h : Rn T.e q.x2 q.z2 P.y) : Rn T.e (stepP u q).x2 (stepP u q).z2 (P.add P).y := by
  have hd := dbl_rep T.D P h
  simp only [Rn, stepP, toK_mod, toK_mul, toK_add, toK_sub] at *
  generalize toK q.x2 = X at *
  generalize toK q.z2 = Z at *
  obtain ⟨D, e, he⟩ := T
  simp only at *
  generalize D.c = c at *
  generalize toK 121665 = c0 at *
  generalize (P.add P).y = y at *
  rcases he with ⟨rfl, hc⟩ | ⟨rfl, hc⟩
  · rw [hc] at hd
    have e1 : (X + Z) * (X + Z) * ((X - Z) * (X - Z)) = (X + 1 * Z) * (X + 1 * Z) * ((X - 1 * Z) * (X - 1 * Z)) := by grind -lia
    have e2 : 1 * (((X + Z) * (X + Z) - (X - Z) * (X - Z)) * ((X + Z) * (X + Z) + c0 * ((X + Z) * (X + Z) - (X - Z) * (X - Z)))) = ((X + 1 * Z) * (X + 1 * Z) - (X - 1 * Z) * (X - 1 * Z)) * ((X + 1 * Z) * (X + 1 * Z) + c0 * ((X + 1 * Z) * (X + 1 * Z) - (X - 1 * Z) * (X - 1 * Z))) := by grind -lia
    rw [e1, e2]
    exact hd
  · rw [hc] at hd
    have e1 : (X + Z) * (X + Z) * ((X - Z) * (X - Z)) = (X + -1 * Z) * (X + -1 * Z) * ((X - -1 * Z) * (X - -1 * Z)) := by grind -lia
    have e2 : -1 * (((X + Z) * (X + Z) - (X - Z) * (X - Z)) * ((X + Z) * (X + Z) + c0 * ((X + Z) * (X + Z) - (X - Z) * (X - Z)))) = ((X + -1 * Z) * (X + -1 * Z) - (X - -1 * Z) * (X - -1 * Z)) * ((X + -1 * Z) * (X + -1 * Z) + -(c0 + 1) * ((X + -1 * Z) * (X + -1 * Z) - (X - -1 * Z) * (X - -1 * Z))) := by grind -lia
    rw [e1, e2]
    exact hd
theorem step_sum {C : Crv} (T : Fam C) (u : Nat) (q : Q4) (P B : Pt C) (hu : toK u ≠ 0) (hB : Rn T.e u 1 B.y) (h2 : Rn T.e q.x2 q.z2 P.y) (h3 : Rn T.e q.x3 q.z3 (P.add B).y) : Rn T.e (stepP u q).x3 (stepP u q).z3 (P.add (P.add B)).y := by
  have e1 : toK 1 = 1 := rfl
  simp only [Rn, stepP, toK_mod, toK_mul, toK_add, toK_sub, e1] at *
  generalize toK q.x2 = X2 at *
  generalize toK q.z2 = Z2 at *
  generalize toK q.x3 = X3 at *
  generalize toK q.z3 = Z3 at *
  generalize toK u = U at *
  obtain ⟨D, e, he⟩ := T
  simp only at *
  have hee : e * e = 1 := by
    rcases he with ⟨h, _⟩ | ⟨h, _⟩
    · rw [h]; grind -lia
    · rw [h]; grind -lia
  have hne : e ≠ 0 := fun h => by
    rw [h] at hee
    have : (1 : K) = 0 := by rw [← hee]; grind -lia
    exact absurd this (by decide)
  have hB' : Rp (e * U) 1 B.y ∨ Rp (e * U) 1 B.y := by
    left
    obtain ⟨b1, b2⟩ := hB
    refine ⟨?_, fun h => b2 ?_⟩
    · apply kcancel hne
      grind -lia
    · apply kcancel hne
      grind -lia
  have hB2 : Rp (e * U) 1 B.y := by rcases hB' with h | h <;> exact h
  have hd := diff_rep P B (kmul_ne hne hu) hB2 h2 h3
  generalize (P.add (P.add B)).y = y at *
  clear hB hB' hB2 h2 h3
  have f1 : ((X3 - Z3) * (X2 + Z2) + (X3 + Z3) * (X2 - Z2)) * ((X3 - Z3) * (X2 + Z2) + (X3 + Z3) * (X2 - Z2)) = ((X3 - e * Z3) * (X2 + e * Z2) + (X3 + e * Z3) * (X2 - e * Z2)) * ((X3 - e * Z3) * (X2 + e * Z2) + (X3 + e * Z3) * (X2 - e * Z2)) := by grind -lia
  have f2 : e * (U * ((X3 - Z3) * (X2 + Z2) - (X3 + Z3) * (X2 - Z2)) * ((X3 - Z3) * (X2 + Z2) - (X3 + Z3) * (X2 - Z2))) = e * U * ((X3 - e * Z3) * (X2 + e * Z2) - (X3 + e * Z3) * (X2 - e * Z2)) * ((X3 - e * Z3) * (X2 + e * Z2) - (X3 + e * Z3) * (X2 - e * Z2)) := by grind -lia
  rw [f1, f2]
  exact hd

/-! ### the whole ladder -/
theorem Rn.swap_neg {C : Crv} {T : Fam C} {u : Nat} {B : Pt C} (h : Rn T.e u 1 B.y) : Rn T.e u 1 B.neg.y := h
theorem Pt.mul_one {C : Crv} (B : Pt C) : B.mul 1 = B := by rw [Pt.mul, Pt.mul, Pt.zero_add]
theorem Pt.mul_back {C : Crv} (B : Pt C) (n : Nat) : (B.mul (n + 1)).add B.neg = B.mul n := by
  rw [Pt.mul, Pt.assoc, Pt.comm B B.neg, Pt.neg_add, Pt.comm, Pt.zero_add]
theorem Pt.mul_dbl {C : Crv} (B : Pt C) (n : Nat) : (B.mul n).add (B.mul n) = B.mul (2 * n) := by rw [← Pt.mul_add, Nat.two_mul]
theorem div_next (k j : Nat) (hj : j < 255) : k / 2 ^ (255 - (j + 1)) = 2 * (k / 2 ^ (255 - j)) + bitN k (254 - j) := by
  have e : 2 ^ (255 - j) = 2 ^ (254 - j) * 2 := by rw [← Nat.pow_succ]; congr 1; omega
  rw [bitN_eq, show 255 - (j + 1) = 254 - j by omega, e, ← Nat.div_div_eq_div_mul]
  omega
/-- the two points of the ladder -/
def LadIs {C : Crv} (T : Fam C) (B : Pt C) (q : Q4) (n : Nat) : Prop := Rn T.e q.x2 q.z2 (B.mul n).y ∧ Rn T.e q.x3 q.z3 (B.mul (n + 1)).y
theorem lad_step {C : Crv} (T : Fam C) (B : Pt C) {u : Nat} (hu : toK u ≠ 0) (hB : Rn T.e u 1 B.y) {q : Q4} {n b : Nat} (hb : b < 2) (h : LadIs T B q n) : LadIs T B (turn b (stepP u (turn b q))) (2 * n + b) := by
  obtain ⟨h2, h3⟩ := h
  have hb01 : b = 0 ∨ b = 1 := by omega
  rcases hb01 with rfl | rfl
  · have e : ∀ x : Q4, turn 0 x = x := fun _ => rfl
    rw [e, e]
    refine ⟨?_, ?_⟩
    · have := step_dbl T u q (B.mul n) h2
      rwa [Pt.mul_dbl] at this
    · have := step_sum T u q (B.mul n) B hu hB h2 (by exact h3)
      rw [show (B.mul n).add B = B.mul (n + 1) from rfl, ← Pt.mul_add] at this
      rwa [show n + (n + 1) = 2 * n + 0 + 1 by omega] at this
  · have e : ∀ x : Q4, turn 1 x = swap4 x := fun _ => rfl
    rw [e, e]
    refine ⟨?_, ?_⟩
    · have := step_sum T u (swap4 q) (B.mul (n + 1)) B.neg hu hB h3 (by rw [Pt.mul_back]; exact h2)
      rw [Pt.mul_back, ← Pt.mul_add] at this
      rwa [show n + 1 + n = 2 * n + 1 by omega] at this
    · have := step_dbl T u (swap4 q) (B.mul (n + 1)) h3
      rw [Pt.mul_dbl] at this
      rwa [show 2 * (n + 1) = 2 * n + 1 + 1 by omega] at this
theorem lad_is {C : Crv} (T : Fam C) (B : Pt C) {k u : Nat} (hk : k < 2 ^ 255) (hu : toK u ≠ 0) (hB : Rn T.e u 1 B.y) (j : Nat) (hj : j ≤ 255) : LadIs T B (lad k u j) (k / 2 ^ (255 - j)) := by
  induction j with
  | zero =>
    rw [Nat.sub_zero, Nat.div_eq_of_lt hk]
    refine ⟨?_, ?_⟩
    · refine ⟨?_, ?_⟩
      · show toK 1 - T.e * toK 0 = (1 : K) * (toK 1 + T.e * toK 0)
        rw [show toK 0 = 0 from rfl]
        generalize toK 1 = x
        generalize T.e = y
        grind -lia
      · show toK 1 + T.e * toK 0 ≠ 0
        rw [show toK 0 = 0 from rfl, show toK 1 = 1 from rfl]
        have h : (1 : K) + T.e * 0 = 1 := by
          generalize T.e = y
          grind -lia
        rw [h]
        decide
    · rw [Pt.mul_one]
      show Rp (toK (u % pp)) (T.e * toK 1) B.y
      rw [toK_mod]
      exact hB
  | succ j ih =>
    have h := lad_step T B hu hB (bitN_lt k (254 - j)) (ih (by omega))
    rw [← div_next k j (by omega)] at h
    exact h
theorem lad_end {C : Crv} (T : Fam C) (B : Pt C) {k u : Nat} (hk : k < 2 ^ 255) (hu : toK u ≠ 0) (hB : Rn T.e u 1 B.y) : Rn T.e (lad k u 255).x2 (lad k u 255).z2 (B.mul k).y := by
  have h := (lad_is T B hk hu hB 255 (Nat.le_refl _)).1
  rwa [Nat.sub_self, Nat.pow_zero, Nat.div_one] at h
end Go.Proofs.Ytnbdeajjfhlmnaa
