/-
  Complete twisted Edwards curves over the numbers modulo 2^255 - 19: the sum of two points, and that it does not matter how a sum is put together. No program in sight.
-/
import Derived.Test.YtnbdeajjfhlmnaaInverse
namespace Go.Proofs.Ytnbdeajjfhlmnaa

abbrev PP : Nat := 57896044618658097711785492504343953926634992332820282019728792003956564819949
instance instPP : NeZero PP := ⟨by decide⟩
abbrev K := Fin PP
theorem pp_PP : pp = PP := pp_lit
theorem PP_prime : Prm PP := prm_57896044618658097711785492504343953926634992332820282019728792003956564819949
def kinv (x : K) : K := Fin.ofNat PP (invP x.val)
theorem kval_ne {x : K} (h : x ≠ 0) : x.val % pp ≠ 0 := by
  rw [pp_PP, Nat.mod_eq_of_lt x.isLt]
  exact fun h0 => h (Fin.ext h0)
theorem mul_kinv {x : K} (h : x ≠ 0) : x * kinv x = 1 := by
  apply Fin.ext
  have h1 := inv_mul (kval_ne h)
  rw [pp_PP] at h1
  rw [Fin.val_mul, kinv, Fin.val_ofNat, Nat.mul_mod_mod, h1]
  rfl
theorem kmul_zero {x y : K} (h : x * y = 0) : x = 0 ∨ y = 0 := by
  by_cases hx : x = 0
  · exact .inl hx
  · right
    have h1 := mul_kinv hx
    have : kinv x * (x * y) = y := by
      generalize kinv x = z at *
      grind -lia
    rw [h] at this
    grind -lia
theorem kcancel {z x y : K} (hz : z ≠ 0) (h : z * x = z * y) : x = y := by
  have h1 : z * (x - y) = 0 := by grind -lia
  rcases kmul_zero h1 with h2 | h2
  · exact absurd h2 hz
  · grind -lia
theorem kmul_ne {x y : K} (hx : x ≠ 0) (hy : y ≠ 0) : x * y ≠ 0 := fun h => by
  rcases kmul_zero h with h | h
  · exact hx h
  · exact hy h

/-- the constants of a complete curve -/
structure Crv where
  a : K
  d : K
  s : K
  hs : s * s = a
  ns : ∀ z w : K, d * (z * z) = w * w → z = 0
  s0 : s ≠ 0
def Crv.on (C : Crv) (x y : K) : Prop := C.a * x * x + y * y = 1 + C.d * x * x * y * y
theorem two_ne : (2 : K) ≠ 0 := by decide
theorem Crv.den {C : Crv} {x1 y1 x2 y2 : K} (h1 : C.on x1 y1) (h2 : C.on x2 y2) (he : (C.d * x1 * x2 * y1 * y2) * (C.d * x1 * x2 * y1 * y2) = 1) : False := by
  obtain ⟨a, d, s, hs, ns, s0⟩ := C
  simp only [Crv.on] at h1 h2
  simp only at he
  have f1 : d * ((x1 * y1 * (s * x2 + y2)) * (x1 * y1 * (s * x2 + y2))) = (s * x1 + (d * x1 * x2 * y1 * y2) * y1) * (s * x1 + (d * x1 * x2 * y1 * y2) * y1) := by grind -lia
  have f2 : d * ((x1 * y1 * (s * x2 - y2)) * (x1 * y1 * (s * x2 - y2))) = (s * x1 - (d * x1 * x2 * y1 * y2) * y1) * (s * x1 - (d * x1 * x2 * y1 * y2) * y1) := by grind -lia
  have g1 := ns _ _ f1
  have g2 := ns _ _ f2
  have g3 : x1 * y1 * (2 * y2) = 0 := by grind -lia
  have h1 : (1 : K) = 0 := by
    have : 2 * (d * x1 * x2 * y1 * y2) = 0 := by
      have e : 2 * (d * x1 * x2 * y1 * y2) = d * x2 * (x1 * y1 * (2 * y2)) := by grind -lia
      rw [e, g3]; grind -lia
    rcases kmul_zero this with h | h
    · exact absurd h two_ne
    · rw [h] at he; grind -lia
  exact absurd h1 (by decide)
theorem Crv.den_p {C : Crv} {x1 y1 x2 y2 : K} (h1 : C.on x1 y1) (h2 : C.on x2 y2) : 1 + C.d * x1 * x2 * y1 * y2 ≠ 0 := fun h => Crv.den h1 h2 (by
  generalize C.d * x1 * x2 * y1 * y2 = e at h
  grind -lia)
theorem Crv.den_m {C : Crv} {x1 y1 x2 y2 : K} (h1 : C.on x1 y1) (h2 : C.on x2 y2) : 1 - C.d * x1 * x2 * y1 * y2 ≠ 0 := fun h => Crv.den h1 h2 (by
  generalize C.d * x1 * x2 * y1 * y2 = e at h
  grind -lia)

/-- a point -/
structure Pt (C : Crv) where
  x : K
  y : K
  h : C.on x y
theorem Pt.eq {C : Crv} {P Q : Pt C} (hx : P.x = Q.x) (hy : P.y = Q.y) : P = Q := by
  obtain ⟨x, y, h⟩ := P
  obtain ⟨x', y', h'⟩ := Q
  simp only at hx hy
  subst hx hy
  rfl
def addX (C : Crv) (x1 y1 x2 y2 : K) : K := (x1 * y2 + y1 * x2) * kinv (1 + C.d * x1 * x2 * y1 * y2)
def addY (C : Crv) (x1 y1 x2 y2 : K) : K := (y1 * y2 - C.a * x1 * x2) * kinv (1 - C.d * x1 * x2 * y1 * y2)
theorem addX_eq {C : Crv} {x1 y1 x2 y2 : K} (h1 : C.on x1 y1) (h2 : C.on x2 y2) : (1 + C.d * x1 * x2 * y1 * y2) * addX C x1 y1 x2 y2 = x1 * y2 + y1 * x2 := by
  have := mul_kinv (Crv.den_p h1 h2)
  rw [addX]
  generalize kinv (1 + C.d * x1 * x2 * y1 * y2) = z at *
  grind -lia
theorem addY_eq {C : Crv} {x1 y1 x2 y2 : K} (h1 : C.on x1 y1) (h2 : C.on x2 y2) : (1 - C.d * x1 * x2 * y1 * y2) * addY C x1 y1 x2 y2 = y1 * y2 - C.a * x1 * x2 := by
  have := mul_kinv (Crv.den_m h1 h2)
  rw [addY]
  generalize kinv (1 - C.d * x1 * x2 * y1 * y2) = z at *
  grind -lia
theorem closed_key {a d x1 y1 x2 y2 : K} (h1 : a*x1*x1 + y1*y1 = 1 + d*x1*x1*y1*y1) (h2 : a*x2*x2 + y2*y2 = 1 + d*x2*x2*y2*y2) :
  a * ((x1*y2+y1*x2)*(1 - d*x1*x2*y1*y2)) * ((x1*y2+y1*x2)*(1 - d*x1*x2*y1*y2)) + ((y1*y2 - a*x1*x2)*(1 + d*x1*x2*y1*y2))*((y1*y2 - a*x1*x2)*(1 + d*x1*x2*y1*y2))
   = (1 - d*x1*x2*y1*y2)*(1 - d*x1*x2*y1*y2)*((1 + d*x1*x2*y1*y2)*(1 + d*x1*x2*y1*y2)) + d*((x1*y2+y1*x2)*(x1*y2+y1*x2))*((y1*y2 - a*x1*x2)*(y1*y2 - a*x1*x2)) := by grind -lia
theorem add_on {C : Crv} {x1 y1 x2 y2 : K} (h1 : C.on x1 y1) (h2 : C.on x2 y2) : C.on (addX C x1 y1 x2 y2) (addY C x1 y1 x2 y2) := by
  have ex := addX_eq h1 h2
  have ey := addY_eq h1 h2
  have dp := Crv.den_p h1 h2
  have dm := Crv.den_m h1 h2
  have hk := closed_key h1 h2
  rw [← ex, ← ey] at hk
  generalize addX C x1 y1 x2 y2 = X at *
  generalize addY C x1 y1 x2 y2 = Y at *
  generalize 1 + C.d * x1 * x2 * y1 * y2 = p at *
  generalize 1 - C.d * x1 * x2 * y1 * y2 = m at *
  have hpm : p * m * (p * m) ≠ 0 := kmul_ne (kmul_ne dp dm) (kmul_ne dp dm)
  apply kcancel hpm
  grind -lia
def Pt.add {C : Crv} (P Q : Pt C) : Pt C := ⟨addX C P.x P.y Q.x Q.y, addY C P.x P.y Q.x Q.y, add_on P.h Q.h⟩
end Go.Proofs.Ytnbdeajjfhlmnaa
