/-
  The ladder's step, over a complete Edwards curve: what it does to the y of two points whose difference is known. No program in sight.
-/
import Derived.Test.YtnbdeajjfhlmnaaGroup
namespace Go.Proofs.Ytnbdeajjfhlmnaa

/-- (X : Z) stands for the point's y -/
def Rp (X Z y : K) : Prop := X - Z = y * (X + Z) ∧ X + Z ≠ 0
theorem ksq_zero {x : K} (h : x * x = 0) : x = 0 := by rcases kmul_zero h with h | h <;> exact h
/-- the constant of the doubling -/
structure Cst (C : Crv) where
  c : K
  hc : c * (C.a - C.d) = C.d
  hne : C.a - C.d ≠ 0
theorem Crv.adw {C : Crv} (y : K) : C.a - C.d * (y * y) ≠ 0 := fun h => by
  have h1 : C.d * (y * y) = C.s * C.s := by rw [C.hs]; grind -lia
  have h2 := C.ns _ _ h1
  rw [h2] at h1
  have h3 : C.s * C.s = 0 := by rw [← h1]; grind -lia
  exact C.s0 (ksq_zero h3)
theorem dbl_rep {C : Crv} (D : Cst C) (P : Pt C) {X Z : K} (h : Rp X Z P.y) :
    Rp ((X + Z) * (X + Z) * ((X - Z) * (X - Z))) (((X + Z) * (X + Z) - (X - Z) * (X - Z)) * ((X + Z) * (X + Z) + D.c * ((X + Z) * (X + Z) - (X - Z) * (X - Z)))) (P.add P).y := by
  obtain ⟨h1, h2⟩ := h
  rw [h1]
  generalize X + Z = t at h2
  have hy := addY_eq P.h P.h
  have hden := Crv.den_m P.h P.h
  have hadw := C.adw P.y
  have hon := P.h
  have hc := D.hc
  have hne := D.hne
  change (1 - C.d * P.x * P.x * P.y * P.y) * (P.add P).y = P.y * P.y - C.a * P.x * P.x at hy
  generalize (P.add P).y = yD at *
  generalize P.x = x at *
  generalize P.y = y at *
  generalize D.c = c at *
  obtain ⟨a, d, s, _, _, _⟩ := C
  simp only [Crv.on] at *
  have e1 : (a - d) * (t * t * (y * t * (y * t)) + (t * t - y * t * (y * t)) * (t * t + c * (t * t - y * t * (y * t)))) = (t * t * (t * t)) * ((1 - d * x * x * y * y) * (a - d * (y * y))) := by
    clear hy hden hadw hne h1 h2
    grind -lia
  have e2 : (a - d) * (t * t * (y * t * (y * t)) - (t * t - y * t * (y * t)) * (t * t + c * (t * t - y * t * (y * t)))) = (t * t * (t * t)) * ((y * y - a * x * x) * (a - d * (y * y))) := by
    clear hy hden hadw hne h1 h2
    grind -lia
  refine ⟨?_, fun h0 => ?_⟩
  · apply kcancel hne
    rw [e2, ← hy]
    clear e2 hc hon hden hadw hne hy
    generalize t * t * (y * t * (y * t)) + (t * t - y * t * (y * t)) * (t * t + c * (t * t - y * t * (y * t))) = A at *
    generalize 1 - d * x * x * y * y = m at *
    generalize a - d * (y * y) = n at *
    grind -lia
  · rw [h0] at e1
    have h3 : t * t * (t * t) * ((1 - d * x * x * y * y) * (a - d * (y * y))) = 0 := by rw [← e1]; grind -lia
    exact kmul_ne (kmul_ne (kmul_ne h2 h2) (kmul_ne h2 h2)) (kmul_ne hden hadw) h3

theorem diff_key {a d x1 y1 x2 y2 : K} (h1 : a*x1*x1 + y1*y1 = 1 + d*x1*x1*y1*y1) (h2 : a*x2*x2 + y2*y2 = 1 + d*x2*x2*y2*y2) :
    (y1 + y2) * (y1 + y2) * (1 - d*x1*x2*y1*y2 - (y1*y2 - a*x1*x2)) * (1 + d*x1*x2*y1*y2 - (y1*y2 + a*x1*x2)) =
    (y1 - y2) * (y1 - y2) * (1 + d*x1*x2*y1*y2 + (y1*y2 + a*x1*x2)) * (1 - d*x1*x2*y1*y2 + (y1*y2 - a*x1*x2)) := by grind -lia

def Pt.neg {C : Crv} (P : Pt C) : Pt C := ⟨-P.x, P.y, by
  have h := P.h
  simp only [Crv.on] at *
  grind -lia⟩
theorem Pt.neg_add {C : Crv} (P : Pt C) : P.neg.add P = Pt.zero C := by
  have hx := addX_eq P.neg.h P.h
  have hy := addY_eq P.neg.h P.h
  have dp := Crv.den_p P.neg.h P.h
  have dm := Crv.den_m P.neg.h P.h
  have h := P.h
  refine Pt.eq ?_ ?_
  · change addX C P.neg.x P.neg.y P.x P.y = 0
    apply kcancel dp
    rw [hx]
    change -P.x * P.y + P.y * P.x = _
    generalize P.x = x at *
    generalize P.y = y at *
    clear hx hy dp dm h
    grind -lia
  · change addY C P.neg.x P.neg.y P.x P.y = 1
    apply kcancel dm
    rw [hy]
    change P.y * P.y - C.a * -P.x * P.x = (1 - C.d * -P.x * P.x * P.y * P.y) * 1
    simp only [Crv.on] at h
    generalize P.x = x at *
    generalize P.y = y at *
    clear hx hy dp dm
    grind -lia
theorem Pt.back {C : Crv} (P B : Pt C) : P.neg.add (P.add B) = B := by rw [← Pt.assoc, Pt.neg_add, Pt.zero_add]

/-- the sum of two points whose difference is B -/
theorem diff_rep {C : Crv} (P B : Pt C) {u X2 Z2 X3 Z3 : K} (hu : u ≠ 0) (hB : Rp u 1 B.y) (h2 : Rp X2 Z2 P.y) (h3 : Rp X3 Z3 (P.add B).y) :
    Rp (((X3 - Z3) * (X2 + Z2) + (X3 + Z3) * (X2 - Z2)) * ((X3 - Z3) * (X2 + Z2) + (X3 + Z3) * (X2 - Z2))) (u * ((X3 - Z3) * (X2 + Z2) - (X3 + Z3) * (X2 - Z2)) * ((X3 - Z3) * (X2 + Z2) - (X3 + Z3) * (X2 - Z2))) (P.add (P.add B)).y := by
  obtain ⟨e2, n2⟩ := h2
  obtain ⟨e3, n3⟩ := h3
  obtain ⟨eB, _⟩ := hB
  rw [e2, e3]
  generalize X2 + Z2 = s at *
  generalize X3 + Z3 = t at *
  clear e2 e3
  have hS := addY_eq P.h (P.add B).h
  have hT := addY_eq P.neg.h (P.add B).h
  have dm := Crv.den_m P.h (P.add B).h
  have dp := Crv.den_p P.h (P.add B).h
  have hk := diff_key P.h (P.add B).h
  change (1 - C.d * P.neg.x * (P.add B).x * P.neg.y * (P.add B).y) * (P.neg.add (P.add B)).y = P.neg.y * (P.add B).y - C.a * P.neg.x * (P.add B).x at hT
  rw [Pt.back] at hT
  change (1 - C.d * -P.x * (P.add B).x * P.y * (P.add B).y) * B.y = P.y * (P.add B).y - C.a * -P.x * (P.add B).x at hT
  change (1 - C.d * P.x * (P.add B).x * P.y * (P.add B).y) * (P.add (P.add B)).y = P.y * (P.add B).y - C.a * P.x * (P.add B).x at hS
  have on1 := P.h
  have on2 := (P.add B).h
  generalize (P.add (P.add B)).y = yS at *
  generalize (P.add B).y = y2 at *
  generalize (P.add B).x = x2 at *
  generalize P.x = x1 at *
  generalize P.y = y1 at *
  generalize B.y = yT at *
  obtain ⟨a, d, _, _, _, _⟩ := C
  simp only [Crv.on] at *
  have hT' : (1 + d * x1 * x2 * y1 * y2) * yT = y1 * y2 + a * x1 * x2 := by
    clear hk on1 on2 hS dm dp eB
    grind -lia
  rw [← hS, ← hT'] at hk
  have key : (y1 + y2) * (y1 + y2) * (1 - yS) * (1 - yT) = (y1 - y2) * (y1 - y2) * (1 + yT) * (1 + yS) := by
    apply kcancel (kmul_ne dm dp)
    clear on1 on2 hS hT hT' dm dp eB
    generalize 1 - d * x1 * x2 * y1 * y2 = m at *
    generalize 1 + d * x1 * x2 * y1 * y2 = p at *
    grind -lia
  have hT1 : 1 - yT ≠ 0 := fun h => by
    have : (2 : K) = 0 := by
      clear hk key on1 on2 hS hT hT' dm dp
      grind -lia
    exact two_ne this
  have key2 : (y1 + y2) * (y1 + y2) * (1 - yS) = u * ((y1 - y2) * (y1 - y2)) * (1 + yS) := by
    apply kcancel hT1
    have e : 1 + yT = u * (1 - yT) := by
      clear hk key on1 on2 hS hT hT' dm dp
      grind -lia
    rw [e] at key
    clear hk on1 on2 hS hT hT' dm dp eB e
    grind -lia
  refine ⟨?_, fun h0 => ?_⟩
  · clear hk key on1 on2 hS hT hT' dm dp eB hT1
    grind -lia
  · have hts := kmul_ne n3 n2
    have h1 : (y1 + y2) * (y1 + y2) + u * ((y1 - y2) * (y1 - y2)) = 0 := by
      apply kcancel (kmul_ne hts hts)
      clear hk key key2 on1 on2 hS hT hT' dm dp eB hT1 hts
      grind -lia
    have h2 : 2 * (u * ((y1 - y2) * (y1 - y2))) = 0 := by
      clear hk key on1 on2 hS hT hT' dm dp eB hT1 hts h0
      grind -lia
    have h3 : y1 - y2 = 0 := by
      rcases kmul_zero h2 with h | h
      · exact absurd h two_ne
      · rcases kmul_zero h with h | h
        · exact absurd h hu
        · exact ksq_zero h
    have h4 : y1 + y2 = 0 := by
      rw [h3] at h1
      apply ksq_zero
      clear hk key key2 on1 on2 hS hT hT' dm dp eB hT1 hts h0 h2
      grind -lia
    have h5 : y1 = 0 := by
      have : 2 * y1 = 0 := by
        clear hk key key2 on1 on2 hS hT hT' dm dp eB hT1 hts h0 h2 h1
        grind -lia
      rcases kmul_zero this with h | h
      · exact absurd h two_ne
      · exact h
    have h6 : y2 = 0 := by rw [h5] at h4; clear hk key key2 on1 on2 hS hT hT' dm dp eB hT1 hts h0 h2 h1 h3; grind -lia
    subst h5 h6
    have f1 : a * x1 * x1 = 1 := by clear hk key key2 hS hT hT' dm dp eB hT1 hts h0 h2 h1 h3 h4 on2; grind -lia
    have f2 : a * x2 * x2 = 1 := by clear hk key key2 hS hT hT' dm dp eB hT1 hts h0 h2 h1 h3 h4 on1 f1; grind -lia
    have f3 : yT = a * x1 * x2 := by clear hk key key2 hS hT dm dp eB hT1 hts h0 h2 h1 h3 h4 on1 on2 f1 f2; grind -lia
    have f4 : (yT - 1) * (yT + 1) = 0 := by rw [f3]; clear hk key key2 hS hT hT' dm dp eB hT1 hts h0 h2 h1 h3 h4 on1 on2 f3; grind -lia
    rcases kmul_zero f4 with h | h
    · exact hT1 (by clear hk key key2 hS hT hT' dm dp eB hT1 hts h0 h2 h1 h3 h4 on1 on2 f1 f2 f3 f4; grind -lia)
    · have h7 : 2 * u = 0 := by clear hk key key2 hS hT hT' dm dp hT1 hts h0 h2 h1 h3 h4 on1 on2 f1 f2 f3 f4; grind -lia
      rcases kmul_zero h7 with h | h
      · exact absurd h two_ne
      · exact hu h
end Go.Proofs.Ytnbdeajjfhlmnaa
