/-
  The point over 9 has a prime order, and a private key's multiple of it is never told as 0. No program in sight.
-/
import Derived.Test.YtnbdeajjfhlmnaaPrimeL
import Derived.Test.YtnbdeajjfhlmnaaTurns
namespace Go.Proofs.Ytnbdeajjfhlmnaa

def LL : Nat := 7237005577332262213973186563042994240857116359379907606001950938285454250989
theorem LL_prime : Prm LL := prm_7237005577332262213973186563042994240857116359379907606001950938285454250989
theorem on9 : C1.on (toK 38213832894368730265794714087330135568483813637251082400757400312561599933396) (toK 46316835694926478169428394003475163141307993866256225615783033603165251855960) := by
  unfold Crv.on
  decide +kernel
def B9 : Pt C1 := ⟨_, _, on9⟩
theorem rp9 : Rn T1.e 9 1 B9.y := by
  refine ⟨?_, ?_⟩
  · decide +kernel
  · decide +kernel
theorem nine_ne : toK 9 ≠ 0 := by decide +kernel
theorem y9_ne : B9.y ≠ 1 := by decide +kernel
theorem lad_LL : (lad LL 9 255).z2 % pp = 0 := by decide +kernel
theorem mul_LL : B9.mul LL = Pt.zero C1 := by
  have h := lad_end T1 B9 (k := LL) (u := 9) (by decide +kernel) nine_ne rp9
  obtain ⟨h1, h2⟩ := h
  have hz : toK (lad LL 9 255).z2 = 0 := by rw [← toK_mod, lad_LL]; rfl
  rw [hz] at h1 h2
  generalize toK (lad LL 9 255).x2 = X at *
  generalize B9.mul LL = Q at *
  have hy : Q.y = 1 := by
    have e : T1.e * 0 = 0 := by generalize T1.e = z; grind -lia
    rw [e] at h1 h2
    apply kcancel h2
    grind -lia
  have hx : Q.x = 0 := by
    have h := Q.h
    have hn := T1.D.hne
    simp only [Crv.on] at h
    rw [hy] at h
    have h1 : (C1.a - C1.d) * (Q.x * Q.x) = 0 := by
      generalize Q.x = x at *
      generalize C1.a = a at *
      generalize C1.d = d at *
      grind -lia
    rcases kmul_zero h1 with h | h
    · exact absurd h hn
    · exact ksq_zero h
  exact Pt.eq hx hy
theorem zero_mul' {C : Crv} (m : Nat) : (Pt.zero C).mul m = Pt.zero C := by
  induction m with
  | zero => rfl
  | succ m ih => rw [Pt.mul, ih, Pt.zero_add]
/-- a multiple whose factor is no multiple of the order isn't zero -/
theorem mul_ne {n : Nat} (h : ¬ LL ∣ n) : B9.mul n ≠ Pt.zero C1 := fun h0 => by
  have hn : 0 < n := Nat.pos_of_ne_zero fun e => h (e ▸ Nat.dvd_zero LL)
  have hg : Nat.gcd n LL = 1 := by rw [Nat.gcd_comm]; exact LL_prime.cop h
  obtain ⟨u, v, e⟩ := bez (n + LL) n LL (Nat.le_refl _) hn (by decide) hg
  have h1 : B9.mul (n * u) = Pt.zero C1 := by rw [← Pt.mul_mul, h0, zero_mul']
  rw [Nat.mul_comm, e, Pt.mul_add, Nat.mul_comm, ← Pt.mul_mul, mul_LL, zero_mul', Pt.zero_add, Pt.mul_one] at h1
  exact y9_ne (by rw [h1]; rfl)
theorem end_ne {k u n : Nat} (hk : k < 2 ^ 255) (hu : toK u ≠ 0) (hB : Rn T1.e u 1 (B9.mul n).y) (hd : ¬ LL ∣ 2 * (n * k)) : toK (endP k u) ≠ 0 ∧ Rn T1.e (endP k u) 1 (B9.mul (n * k)).y := by
  have r := lad_end T1 (B9.mul n) hk hu hB
  rw [Pt.mul_mul] at r
  have hne : toK (endP k u) ≠ 0 := fun h0 => by
    have h1 := even_zero T1.D _ (end_zero T1 r h0) 1
    rw [Pt.mul_mul, Nat.mul_one, Nat.mul_comm (n * k)] at h1
    exact mul_ne hd h1
  exact ⟨hne, end_rep T1 r hne⟩
/-- what a private key is -/
theorem clamp_form (n : Nat) : ∃ m, clampP n = 8 * m ∧ 0 < m ∧ m < LL := by
  have h0 := clamp_byte n 0 (by decide)
  rw [if_neg (by decide), if_pos rfl, byteOf, Nat.pow_zero, Nat.div_one] at h0
  have h31 := clamp_byte n 31 (by decide)
  rw [if_pos rfl] at h31
  have hlt := clamp_low n
  generalize clampP n = k at *
  have hk : byteOf k 31 * 2 ^ 248 ≤ k := by
    rw [byteOf]
    have h1 := Nat.div_mul_le_self k (256 ^ 31)
    have h2 := Nat.mod_le (k / 256 ^ 31) 256
    have h3 : (k / 256 ^ 31 % 256) * 256 ^ 31 ≤ k := Nat.le_trans (Nat.mul_le_mul_right _ h2) h1
    exact h3
  have hp : 0 < k := by
    have : 0 < byteOf k 31 * 2 ^ 248 := Nat.mul_pos (by omega) (by decide)
    omega
  refine ⟨k / 8, by omega, by omega, ?_⟩
  have hL : 2 ^ 255 ≤ 8 * LL := by decide
  generalize LL = L at *
  generalize 2 ^ 255 = M at *
  omega
theorem LL_not {a b : Nat} (ha : 0 < a) (hal : a < LL) (hb : 0 < b) (hbl : b < LL) {c : Nat} (hc : 0 < c) (hcl : c < LL) : ¬ LL ∣ c * (a * b) := fun h => by
  rcases LL_prime.dvd_mul h with h | h
  · exact absurd (Nat.le_of_dvd hc h) (by omega)
  · rcases LL_prime.dvd_mul h with h | h
    · exact absurd (Nat.le_of_dvd ha h) (by omega)
    · exact absurd (Nat.le_of_dvd hb h) (by omega)
theorem mask9 : maskP 9 = 9 := by decide +kernel
theorem meet_ne (a b : Nat) : timesP a (timesP b 9) ≠ 0 := by
  simp only [timesP]
  rw [mask9, mask_small (n := endP (clampP b) 9) (Nat.mod_lt _ (by decide))]
  obtain ⟨x, ex, x0, xl⟩ := clamp_form a
  obtain ⟨y, ey, y0, yl⟩ := clamp_form b
  have ha := clamp_low a
  have hb := clamp_low b
  rw [ex] at ha ⊢
  rw [ey] at hb ⊢
  have h1 := end_ne (n := 1) hb nine_ne (by rw [Pt.mul_one]; exact rp9) (by
    rw [show 2 * (1 * (8 * y)) = 16 * (1 * y) by omega]
    exact LL_not (by decide) (by decide) y0 yl (by decide) (by decide))
  have h2 := end_ne (n := 1 * (8 * y)) ha h1.1 h1.2 (by
    rw [show 2 * (1 * (8 * y) * (8 * x)) = 128 * (x * y) by grind]
    exact LL_not x0 xl y0 yl (by decide) (by decide))
  intro h0
  apply h2.1
  rw [h0]
  rfl
end Go.Proofs.Ytnbdeajjfhlmnaa
