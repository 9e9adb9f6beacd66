/-
  Complete twisted Edwards curves: the sum is associative; multiples. No program in sight.
-/
import Derived.Test.YtnbdeajjfhlmnaaEdw
namespace Go.Proofs.Ytnbdeajjfhlmnaa

set_option maxHeartbeats 4000000 in
theorem assoc_x {a d x1 y1 x2 y2 x3 y3 : K} (h1 : a*x1*x1 + y1*y1 = 1 + d*x1*x1*y1*y1) (h2 : a*x2*x2 + y2*y2 = 1 + d*x2*x2*y2*y2) (h3 : a*x3*x3 + y3*y3 = 1 + d*x3*x3*y3*y3) :
  ((x1*y2+y1*x2)*(1 - d*x1*x2*y1*y2)*y3 + x3*(y1*y2 - a*x1*x2)*(1 + d*x1*x2*y1*y2)) * ((1 + d*x2*x3*y2*y3)*(1 - d*x2*x3*y2*y3) + d*x1*y1*(x2*y3+y2*x3)*(y2*y3 - a*x2*x3))
   = (x1*(y2*y3 - a*x2*x3)*(1 + d*x2*x3*y2*y3) + (x2*y3+y2*x3)*(1 - d*x2*x3*y2*y3)*y1) * ((1 + d*x1*x2*y1*y2)*(1 - d*x1*x2*y1*y2) + d*x3*y3*(x1*y2+y1*x2)*(y1*y2 - a*x1*x2)) := by grind -lia (ringSteps := 100000)
set_option maxHeartbeats 4000000 in
theorem assoc_y {a d x1 y1 x2 y2 x3 y3 : K} (h1 : a*x1*x1 + y1*y1 = 1 + d*x1*x1*y1*y1) (h2 : a*x2*x2 + y2*y2 = 1 + d*x2*x2*y2*y2) (h3 : a*x3*x3 + y3*y3 = 1 + d*x3*x3*y3*y3) :
  ((y1*y2 - a*x1*x2)*(1 + d*x1*x2*y1*y2)*y3 - a*(x1*y2+y1*x2)*(1 - d*x1*x2*y1*y2)*x3) * ((1 + d*x2*x3*y2*y3)*(1 - d*x2*x3*y2*y3) - d*x1*y1*(x2*y3+y2*x3)*(y2*y3 - a*x2*x3))
   = (y1*(y2*y3 - a*x2*x3)*(1 + d*x2*x3*y2*y3) - a*x1*(x2*y3+y2*x3)*(1 - d*x2*x3*y2*y3)) * ((1 + d*x1*x2*y1*y2)*(1 - d*x1*x2*y1*y2) - d*x3*y3*(x1*y2+y1*x2)*(y1*y2 - a*x1*x2)) := by grind -lia (ringSteps := 100000)

theorem add_assoc_x {C : Crv} {x1 y1 x2 y2 x3 y3 : K} (h1 : C.on x1 y1) (h2 : C.on x2 y2) (h3 : C.on x3 y3) :
    addX C (addX C x1 y1 x2 y2) (addY C x1 y1 x2 y2) x3 y3 = addX C x1 y1 (addX C x2 y2 x3 y3) (addY C x2 y2 x3 y3) := by
  have h12 := add_on h1 h2
  have h23 := add_on h2 h3
  have hk := assoc_x h1 h2 h3
  rw [← addX_eq h1 h2, ← addY_eq h1 h2, ← addX_eq h2 h3, ← addY_eq h2 h3] at hk
  have p12 := Crv.den_p h1 h2
  have m12 := Crv.den_m h1 h2
  have p23 := Crv.den_p h2 h3
  have m23 := Crv.den_m h2 h3
  have eL := addX_eq h12 h3
  have eR := addX_eq h1 h23
  have dL := Crv.den_p h12 h3
  have dR := Crv.den_p h1 h23
  generalize addX C x1 y1 x2 y2 = X at *
  generalize addY C x1 y1 x2 y2 = Y at *
  generalize addX C x2 y2 x3 y3 = U at *
  generalize addY C x2 y2 x3 y3 = V at *
  generalize addX C X Y x3 y3 = L at *
  generalize addX C x1 y1 U V = R at *
  generalize 1 + C.d * x1 * x2 * y1 * y2 = a1 at *
  generalize 1 - C.d * x1 * x2 * y1 * y2 = a2 at *
  generalize 1 + C.d * x2 * x3 * y2 * y3 = b1 at *
  generalize 1 - C.d * x2 * x3 * y2 * y3 = b2 at *
  have hne := kmul_ne (kmul_ne p12 m12) (kmul_ne p23 m23)
  have hmid : (X * y3 + Y * x3) * (1 + C.d * x1 * U * y1 * V) = (x1 * V + y1 * U) * (1 + C.d * X * x3 * Y * y3) := by
    apply kcancel hne
    clear eL eR dL dR h1 h2 h3 h12 h23 p12 m12 p23 m23 hne
    grind -lia
  rw [← eL, ← eR] at hmid
  clear hk
  generalize 1 + C.d * x1 * U * y1 * V = p at *
  generalize 1 + C.d * X * x3 * Y * y3 = q at *
  apply kcancel (kmul_ne dL dR)
  clear eL eR dL dR h1 h2 h3 h12 h23 p12 m12 p23 m23 hne
  grind -lia
theorem add_assoc_y {C : Crv} {x1 y1 x2 y2 x3 y3 : K} (h1 : C.on x1 y1) (h2 : C.on x2 y2) (h3 : C.on x3 y3) :
    addY C (addX C x1 y1 x2 y2) (addY C x1 y1 x2 y2) x3 y3 = addY C x1 y1 (addX C x2 y2 x3 y3) (addY C x2 y2 x3 y3) := by
  have h12 := add_on h1 h2
  have h23 := add_on h2 h3
  have hk := assoc_y h1 h2 h3
  rw [← addX_eq h1 h2, ← addY_eq h1 h2, ← addX_eq h2 h3, ← addY_eq h2 h3] at hk
  have p12 := Crv.den_p h1 h2
  have m12 := Crv.den_m h1 h2
  have p23 := Crv.den_p h2 h3
  have m23 := Crv.den_m h2 h3
  have eL := addY_eq h12 h3
  have eR := addY_eq h1 h23
  have dL := Crv.den_m h12 h3
  have dR := Crv.den_m h1 h23
  generalize addX C x1 y1 x2 y2 = X at *
  generalize addY C x1 y1 x2 y2 = Y at *
  generalize addX C x2 y2 x3 y3 = U at *
  generalize addY C x2 y2 x3 y3 = V at *
  generalize addY C X Y x3 y3 = L at *
  generalize addY C x1 y1 U V = R at *
  generalize 1 + C.d * x1 * x2 * y1 * y2 = a1 at *
  generalize 1 - C.d * x1 * x2 * y1 * y2 = a2 at *
  generalize 1 + C.d * x2 * x3 * y2 * y3 = b1 at *
  generalize 1 - C.d * x2 * x3 * y2 * y3 = b2 at *
  have hne := kmul_ne (kmul_ne p12 m12) (kmul_ne p23 m23)
  have hmid : (Y * y3 - C.a * X * x3) * (1 - C.d * x1 * U * y1 * V) = (y1 * V - C.a * x1 * U) * (1 - C.d * X * x3 * Y * y3) := by
    apply kcancel hne
    clear eL eR dL dR h1 h2 h3 h12 h23 p12 m12 p23 m23 hne
    grind -lia
  rw [← eL, ← eR] at hmid
  clear hk
  generalize 1 - C.d * x1 * U * y1 * V = p at *
  generalize 1 - C.d * X * x3 * Y * y3 = q at *
  apply kcancel (kmul_ne dL dR)
  clear eL eR dL dR h1 h2 h3 h12 h23 p12 m12 p23 m23 hne
  grind -lia

theorem Pt.assoc {C : Crv} (P Q R : Pt C) : (P.add Q).add R = P.add (Q.add R) := Pt.eq (add_assoc_x P.h Q.h R.h) (add_assoc_y P.h Q.h R.h)
theorem addX_comm (C : Crv) (x1 y1 x2 y2 : K) : addX C x1 y1 x2 y2 = addX C x2 y2 x1 y1 := by
  have e1 : x1 * y2 + y1 * x2 = x2 * y1 + y2 * x1 := by grind -lia
  have e2 : 1 + C.d * x1 * x2 * y1 * y2 = 1 + C.d * x2 * x1 * y2 * y1 := by grind -lia
  rw [addX, addX, e1, e2]
theorem addY_comm (C : Crv) (x1 y1 x2 y2 : K) : addY C x1 y1 x2 y2 = addY C x2 y2 x1 y1 := by
  have e1 : y1 * y2 - C.a * x1 * x2 = y2 * y1 - C.a * x2 * x1 := by grind -lia
  have e2 : 1 - C.d * x1 * x2 * y1 * y2 = 1 - C.d * x2 * x1 * y2 * y1 := by grind -lia
  rw [addY, addY, e1, e2]
theorem Pt.comm {C : Crv} (P Q : Pt C) : P.add Q = Q.add P := Pt.eq (addX_comm C _ _ _ _) (addY_comm C _ _ _ _)
def Pt.zero (C : Crv) : Pt C := ⟨0, 1, by simp only [Crv.on]; grind -lia⟩
theorem kinv_one : kinv 1 = 1 := by
  have h : (1 : K) ≠ 0 := by decide
  have := mul_kinv h
  generalize kinv 1 = z at *
  grind -lia
theorem Pt.zero_add {C : Crv} (P : Pt C) : (Pt.zero C).add P = P := by
  refine Pt.eq ?_ ?_
  · simp only [Pt.add, addX, Pt.zero]
    rw [show 1 + C.d * 0 * P.x * 1 * P.y = 1 by grind -lia, kinv_one]
    grind -lia
  · simp only [Pt.add, addY, Pt.zero]
    rw [show 1 - C.d * 0 * P.x * 1 * P.y = 1 by grind -lia, kinv_one]
    grind -lia
def Pt.mul {C : Crv} (P : Pt C) : Nat → Pt C
  | 0 => Pt.zero C
  | n + 1 => (P.mul n).add P
theorem Pt.mul_add {C : Crv} (P : Pt C) (m n : Nat) : P.mul (m + n) = (P.mul m).add (P.mul n) := by
  induction n with
  | zero => rw [Nat.add_zero, Pt.mul, Pt.comm, Pt.zero_add]
  | succ n ih => rw [← Nat.add_assoc, Pt.mul, ih, Pt.assoc, Pt.mul]
theorem Pt.mul_mul {C : Crv} (P : Pt C) (m n : Nat) : (P.mul m).mul n = P.mul (m * n) := by
  induction n with
  | zero => rfl
  | succ n ih => rw [Pt.mul, ih, Nat.mul_succ, Pt.mul_add]
theorem Pt.mul_comm {C : Crv} (P : Pt C) (m n : Nat) : (P.mul m).mul n = (P.mul n).mul m := by rw [Pt.mul_mul, Pt.mul_mul, Nat.mul_comm]
end Go.Proofs.Ytnbdeajjfhlmnaa
