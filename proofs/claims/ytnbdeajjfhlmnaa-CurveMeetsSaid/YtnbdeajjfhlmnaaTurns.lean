/-
  It does not matter which of two scalars comes first. No program in sight.
-/
import Derived.Test.YtnbdeajjfhlmnaaTwist
import Derived.Test.YtnbdeajjfhlmnaaLooseWalk
namespace Go.Proofs.Ytnbdeajjfhlmnaa

theorem onC1 {U v iv iw A a d : K} (hv : v*v = U*(U*U+A*U+1)) (h1 : v*iv=1) (h2 : (U+1)*iw=1) (ha : a = A+2) (hd : d = A-2) (hne : v * (U + 1) ≠ 0) :
    a*(U*iv)*(U*iv) + ((U-1)*iw)*((U-1)*iw) = 1 + d*(U*iv)*(U*iv)*((U-1)*iw)*((U-1)*iw) := by
  apply kcancel (kmul_ne hne hne)
  grind -lia
theorem onC2 {U v iv iw A a d : K} (hv : 2*(v*v) = U*(U*U+A*U+1)) (h1 : v*iv=1) (h2 : (U-1)*iw=1) (ha : 2*a = A-2) (hd : 2*d = A+2) (hne : v * (U - 1) ≠ 0) :
    a*(U*iv)*(U*iv) + ((U+1)*iw)*((U+1)*iw) = 1 + d*(U*iv)*(U*iv)*((U+1)*iw)*((U+1)*iw) := by
  apply kcancel (kmul_ne two_ne (kmul_ne hne hne))
  grind -lia
theorem point_of {U : K} (hU : U ≠ 0) : (∃ B : Pt C1, Rp U 1 B.y) ∨ (∃ B : Pt C2, Rp U (-1) B.y) := by
  have a1 : C1.a = toK 486662 + 2 := by decide +kernel
  have d1 : C1.d = toK 486662 - 2 := by decide +kernel
  have a2 : 2 * C2.a = toK 486662 - 2 := by decide +kernel
  have d2 : 2 * C2.d = toK 486662 + 2 := by decide +kernel
  have hs := C1.hs
  have ns1 := C1.ns
  have ns2 := C2.ns
  have s10 := C1.s0
  generalize hA : toK 486662 = A at *
  have hone : (1 : K) ≠ 0 := by decide
  have hq : U * U + A * U + 1 ≠ 0 := fun h => s10 (ns1 _ (2 * U + A) (by rw [hs, a1, d1]; grind -lia))
  have hf := kmul_ne hU hq
  obtain ⟨v, hv | hv⟩ := root_any hf
  · left
    have hv0 : v ≠ 0 := fun h => hf (by rw [← hv, h]; grind -lia)
    have hw : U + 1 ≠ 0 := fun h => hone (ns1 1 v (by rw [d1, hv]; grind -lia))
    refine ⟨⟨U * kinv v, (U - 1) * kinv (U + 1), onC1 hv (mul_kinv hv0) (mul_kinv hw) a1 d1 (kmul_ne hv0 hw)⟩, ?_, hw⟩
    have := mul_kinv hw
    show U - 1 = (U - 1) * kinv (U + 1) * (U + 1)
    generalize kinv (U + 1) = z at *
    grind -lia
  · right
    have hv0 : v ≠ 0 := fun h => hf (by rw [← hv, h]; grind -lia)
    have hw : U - 1 ≠ 0 := fun h => hone (ns2 1 v (by
      apply kcancel two_ne
      rw [hv]
      grind -lia))
    refine ⟨⟨U * kinv v, (U + 1) * kinv (U - 1), onC2 hv (mul_kinv hv0) (mul_kinv hw) a2 d2 (kmul_ne hv0 hw)⟩, ?_, ?_⟩
    · have := mul_kinv hw
      show U - -1 = (U + 1) * kinv (U - 1) * (U + -1)
      generalize kinv (U - 1) = z at *
      grind -lia
    · show U + -1 ≠ 0
      exact fun h => hw (by grind -lia)

/-- the end of the ladder, as an element -/
theorem toK_inv (n : Nat) : toK (powP n (pp - 2)) = kinv (toK n) := by
  have h : (toK n).val = n % pp := by rw [pp_PP]; rfl
  show toK (powP n (pp - 2)) = toK (invP (toK n).val)
  rw [h, invP, powP, powP, ← Nat.pow_mod]
theorem kinv_zero : kinv 0 = 0 := by
  show toK (invP 0) = 0
  rw [inv_zero (Nat.zero_mod _)]
  rfl
theorem toK_end (k u : Nat) : toK (endP k u) = toK (lad k u 255).x2 * kinv (toK (lad k u 255).z2) := by rw [endP, toK_mod, toK_mul, toK_inv]
theorem end_eq {k u l v : Nat} (h : toK (endP k u) = toK (endP l v)) : endP k u = endP l v := by
  have := congrArg Fin.val h
  rw [toK_val, toK_val, ← pp_PP] at this
  rw [endP, endP, Nat.mod_mod, Nat.mod_mod] at this
  exact this
/-- nothing -/
def NilQ (q : Q4) : Prop := toK q.x2 * toK q.z2 = 0 ∧ toK q.x3 * toK q.z3 = 0
theorem nil_turn {q : Q4} (b : Nat) (h : NilQ q) : NilQ (turn b q) := by
  unfold turn
  split
  · exact ⟨h.2, h.1⟩
  · exact h
theorem nil_step {u : Nat} (hu : toK u = 0) {q : Q4} (h : NilQ q) : NilQ (stepP u q) := by
  obtain ⟨h1, _⟩ := h
  simp only [NilQ, stepP, toK_mod, toK_mul, toK_add, toK_sub, hu]
  generalize toK q.x2 = X at *
  generalize toK q.z2 = Z at *
  generalize toK q.x3 = Y
  generalize toK q.z3 = W
  generalize toK 121665 = c
  exact ⟨by grind -lia, by grind -lia⟩
theorem nil_lad {k u : Nat} (hu : toK u = 0) (j : Nat) : NilQ (lad k u j) := by
  induction j with
  | zero =>
    refine ⟨?_, ?_⟩
    · show toK 1 * toK 0 = 0
      decide +kernel
    · show toK (u % pp) * toK 1 = 0
      rw [toK_mod, hu]
      decide +kernel
  | succ j ih => exact nil_turn _ (nil_step hu (nil_turn _ ih))
theorem end_nil {k u : Nat} (hu : toK u = 0) : toK (endP k u) = 0 := by
  rw [toK_end]
  rcases kmul_zero (nil_lad (k := k) hu 255).1 with h | h
  · rw [h]; generalize kinv (toK (lad k u 255).z2) = z; grind -lia
  · rw [h, kinv_zero]; generalize toK (lad k u 255).x2 = z; grind -lia
/-- what the end tells of the point -/
theorem end_rep {C : Crv} (T : Fam C) {y : K} {k u : Nat} (h : Rn T.e (lad k u 255).x2 (lad k u 255).z2 y) (h0 : toK (endP k u) ≠ 0) : Rn T.e (endP k u) 1 y := by
  rw [toK_end] at h0
  simp only [Rn] at *
  rw [toK_end, show toK 1 = 1 from rfl]
  generalize toK (lad k u 255).x2 = X at *
  generalize toK (lad k u 255).z2 = Z at *
  have hz : Z ≠ 0 := fun hz => h0 (by rw [hz, kinv_zero]; grind -lia)
  have hi := mul_kinv hz
  generalize kinv Z = i at *
  generalize T.e = e at *
  obtain ⟨h1, h2⟩ := h
  refine ⟨?_, fun h => h2 ?_⟩
  · apply kcancel hz
    grind -lia
  · have : Z * (X * i + e * 1) = 0 := by rw [h]; grind -lia
    grind -lia
theorem end_zero {C : Crv} (T : Fam C) {y : K} {k u : Nat} (h : Rn T.e (lad k u 255).x2 (lad k u 255).z2 y) (h0 : toK (endP k u) = 0) : y * y = 1 := by
  rw [toK_end] at h0
  obtain ⟨h1, h2⟩ := h
  generalize toK (lad k u 255).x2 = X at *
  generalize toK (lad k u 255).z2 = Z at *
  generalize T.e = e at *
  by_cases hz : Z = 0
  · rw [hz] at h1 h2
    have h3 : (X + e * 0) * (y - 1) = 0 := by grind -lia
    rcases kmul_zero h3 with h | h
    · exact absurd h h2
    · grind -lia
  · have hi := mul_kinv hz
    have hX : X = 0 := by
      rcases kmul_zero h0 with h | h
      · exact h
      · rw [h] at hi
        have : (1 : K) = 0 := by rw [← hi]; grind -lia
        exact absurd this (by decide)
    rw [hX] at h1 h2
    have h3 : (0 + e * Z) * (y + 1) = 0 := by grind -lia
    rcases kmul_zero h3 with h | h
    · exact absurd h h2
    · grind -lia

theorem end_one {C : Crv} (T : Fam C) {k u : Nat} (h : Rn T.e (lad k u 255).x2 (lad k u 255).z2 1) : toK (endP k u) = 0 := by
  rw [toK_end]
  obtain ⟨h1, h2⟩ := h
  have he : T.e ≠ 0 := by
    rcases T.he with ⟨h, _⟩ | ⟨h, _⟩
    · rw [h]; decide
    · rw [h]; decide +kernel
  generalize toK (lad k u 255).x2 = X at *
  generalize toK (lad k u 255).z2 = Z at *
  generalize T.e = e at *
  have h3 : 2 * (e * Z) = 0 := by grind -lia
  rcases kmul_zero h3 with h | h
  · exact absurd h two_ne
  · rcases kmul_zero h with h | h
    · exact absurd h he
    · rw [h, kinv_zero]; grind -lia
theorem end_same {C : Crv} (T : Fam C) {k u l v : Nat} {y : K} (h : Rn T.e (lad k u 255).x2 (lad k u 255).z2 y) (h' : Rn T.e (lad l v 255).x2 (lad l v 255).z2 y) : toK (endP k u) = toK (endP l v) := by
  rw [toK_end, toK_end]
  obtain ⟨h1, h2⟩ := h
  obtain ⟨h3, h4⟩ := h'
  have he : T.e ≠ 0 := by
    rcases T.he with ⟨h, _⟩ | ⟨h, _⟩
    · rw [h]; decide
    · rw [h]; decide +kernel
  generalize toK (lad k u 255).x2 = X at *
  generalize toK (lad k u 255).z2 = Z at *
  generalize toK (lad l v 255).x2 = U at *
  generalize toK (lad l v 255).z2 = W at *
  generalize T.e = e at *
  have hx : X * W = U * Z := by
    have h5 : 2 * e * (X * W) = 2 * e * (U * Z) := by
      have h6 : (X - e * Z) * (U + e * W) = (U - e * W) * (X + e * Z) := by rw [h1, h3]; clear h1 h2 h3 h4; grind -lia
      clear h1 h2 h3 h4
      grind -lia
    exact kcancel (kmul_ne two_ne he) h5
  by_cases hz : Z = 0
  · have hX : X ≠ 0 := fun h => h2 (by rw [h, hz]; clear h1 h2 h3 h4 hx; grind -lia)
    have hw : W = 0 := by
      rw [hz] at hx
      rcases kmul_zero (show X * W = 0 by rw [hx]; clear h1 h2 h3 h4 hx; grind -lia) with h | h
      · exact absurd h hX
      · exact h
    rw [hz, hw, kinv_zero]
    clear h1 h2 h3 h4 hx
    grind -lia
  · have hw : W ≠ 0 := fun hw => by
      rw [hw] at hx h3 h4
      have hU : U = 0 := by
        rcases kmul_zero (show U * Z = 0 by rw [← hx]; clear h1 h2 h3 h4 hx; grind -lia) with h | h
        · exact h
        · exact absurd h hz
      exact h4 (by rw [hU]; clear h1 h2 h3 h4 hx; grind -lia)
    have i1 := mul_kinv hz
    have i2 := mul_kinv hw
    generalize kinv Z = p at *
    generalize kinv W = q at *
    apply kcancel (kmul_ne hz hw)
    clear h1 h2 h3 h4
    grind -lia
theorem even_zero {C : Crv} (D : Cst C) (Q : Pt C) (hy : Q.y * Q.y = 1) (m : Nat) : Q.mul (2 * m) = Pt.zero C := by
  have hx : Q.x = 0 := by
    have h := Q.h
    have hn := D.hne
    simp only [Crv.on] at h
    have h1 : (C.a - C.d) * (Q.x * Q.x) = 0 := by
      generalize Q.x = x at *
      generalize Q.y = y at *
      grind -lia
    rcases kmul_zero h1 with h | h
    · exact absurd h hn
    · exact ksq_zero h
  have h2 : Q.add Q = Pt.zero C := by
    refine Pt.eq ?_ ?_
    · show (Q.x * Q.y + Q.y * Q.x) * kinv (1 + C.d * Q.x * Q.x * Q.y * Q.y) = 0
      rw [hx]
      generalize kinv (1 + C.d * 0 * 0 * Q.y * Q.y) = z
      generalize Q.y = y
      grind -lia
    · show (Q.y * Q.y - C.a * Q.x * Q.x) * kinv (1 - C.d * Q.x * Q.x * Q.y * Q.y) = 1
      rw [hx, hy]
      have e : 1 - C.d * 0 * 0 * Q.y * Q.y = 1 := by
        generalize Q.y = y
        grind -lia
      rw [e, kinv_one]
      grind -lia
  have h3 : Q.mul 2 = Pt.zero C := by rw [show (2 : Nat) = 1 + 1 from rfl, Pt.mul, Pt.mul_one, h2]
  rw [← Pt.mul_mul, h3]
  induction m with
  | zero => rfl
  | succ m ih => rw [Pt.mul, ih, Pt.zero_add]
theorem turns_fam {C : Crv} (T : Fam C) (B : Pt C) {k l u : Nat} (hk : k < 2 ^ 255) (hl : l < 2 ^ 255) (ek : ∃ m, k = 2 * m) (el : ∃ m, l = 2 * m) (hu : toK u ≠ 0) (hB : Rn T.e u 1 B.y) :
    toK (endP k (endP l u)) = toK (endP l (endP k u)) := by
  have r1 := lad_end T B hl hu hB
  have r2 := lad_end T B hk hu hB
  obtain ⟨k2, rfl⟩ := ek
  obtain ⟨l2, rfl⟩ := el
  by_cases z1 : toK (endP (2 * l2) u) = 0
  · rw [end_nil z1]
    have hz := even_zero T.D (B.mul (2 * l2)) (end_zero T r1 z1) k2
    rw [Pt.mul_comm] at hz
    by_cases z2 : toK (endP (2 * k2) u) = 0
    · rw [end_nil z2]
    · have r3 := lad_end T (B.mul (2 * k2)) hl z2 (end_rep T r2 z2)
      rw [hz] at r3
      exact (end_one T r3).symm
  · by_cases z2 : toK (endP (2 * k2) u) = 0
    · rw [end_nil z2]
      have hz := even_zero T.D (B.mul (2 * k2)) (end_zero T r2 z2) l2
      rw [Pt.mul_comm] at hz
      have r3 := lad_end T (B.mul (2 * l2)) hk z1 (end_rep T r1 z1)
      rw [hz] at r3
      exact end_one T r3
    · have r3 := lad_end T (B.mul (2 * l2)) hk z1 (end_rep T r1 z1)
      have r4 := lad_end T (B.mul (2 * k2)) hl z2 (end_rep T r2 z2)
      rw [Pt.mul_comm] at r3
      exact end_same T r3 r4
theorem turns_end {k l u : Nat} (hk : k < 2 ^ 255) (hl : l < 2 ^ 255) (ek : ∃ m, k = 2 * m) (el : ∃ m, l = 2 * m) : endP k (endP l u) = endP l (endP k u) := by
  apply end_eq
  by_cases hu : toK u = 0
  · rw [end_nil (end_nil hu), end_nil (end_nil hu)]
  · rcases point_of hu with ⟨B, hB⟩ | ⟨B, hB⟩
    · exact turns_fam T1 B hk hl ek el hu (by
        show Rp (toK u) (1 * toK 1) B.y
        rw [show (1 : K) * toK 1 = 1 by decide +kernel]; exact hB)
    · exact turns_fam T2 B hk hl ek el hu (by
        show Rp (toK u) (-1 * toK 1) B.y
        rw [show (-1 : K) * toK 1 = -1 by decide +kernel]; exact hB)
theorem clamp_low (n : Nat) : clampP n < 2 ^ 255 := lt_of_byte31 (clampP_lt n) (by rw [clamp_byte n 31 (by decide), if_pos rfl]; omega)
theorem clamp_even (n : Nat) : ∃ m, clampP n = 2 * m := by
  have h := clamp_byte n 0 (by decide)
  rw [if_neg (by decide), if_pos rfl, byteOf, Nat.pow_zero, Nat.div_one] at h
  exact ⟨clampP n / 2, by omega⟩
theorem turns (k l u : Nat) : timesP k (timesP l u) = timesP l (timesP k u) := by
  simp only [timesP]
  rw [mask_small (n := endP (clampP l) (maskP u)) (Nat.mod_lt _ (by decide)), mask_small (n := endP (clampP k) (maskP u)) (Nat.mod_lt _ (by decide))]
  exact turns_end (clamp_low k) (clamp_low l) (clamp_even k) (clamp_even l)
end Go.Proofs.Ytnbdeajjfhlmnaa
