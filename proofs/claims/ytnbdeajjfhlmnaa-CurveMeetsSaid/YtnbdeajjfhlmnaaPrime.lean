/-
  Prime numbers: Fermat's little theorem, Pocklington's test, and 2^255 - 19. No program in sight.
-/
namespace Go.Proofs.Ytnbdeajjfhlmnaa

def Prm (p : Nat) : Prop := 2 ≤ p ∧ ∀ m, m ∣ p → m = 1 ∨ m = p

theorem Prm.cop {p a : Nat} (hp : Prm p) (h : ¬ p ∣ a) : Nat.gcd p a = 1 := by
  rcases hp.2 _ (Nat.gcd_dvd_left p a) with h1 | h1
  · exact h1
  · exact absurd (h1 ▸ Nat.gcd_dvd_right p a) h
theorem Prm.dvd_mul {p a b : Nat} (hp : Prm p) (h : p ∣ a * b) : p ∣ a ∨ p ∣ b := by
  by_cases ha : p ∣ a
  · exact .inl ha
  · exact .inr (Nat.Coprime.dvd_of_dvd_mul_left (hp.cop ha) h)

/-! ### Fermat -/
def chs : Nat → Nat → Nat
  | _, 0 => 1
  | 0, _ + 1 => 0
  | n + 1, k + 1 => chs n k + chs n (k + 1)
theorem chs_zero (n : Nat) : chs n 0 = 1 := by cases n <;> rfl
theorem chs_gt : ∀ (n k : Nat), n < k → chs n k = 0
  | 0, k + 1, _ => rfl
  | n + 1, k + 1, h => by rw [chs, chs_gt n k (by omega), chs_gt n (k + 1) (by omega)]
theorem chs_self (n : Nat) : chs n n = 1 := by
  induction n with
  | zero => rfl
  | succ n ih => rw [chs, ih, chs_gt n (n + 1) (by omega)]
theorem chs_absorb : ∀ (n k : Nat), (k + 1) * chs (n + 1) (k + 1) = (n + 1) * chs n k
  | 0, 0 => rfl
  | 0, k + 1 => by rw [chs_gt 1 (k + 1 + 1) (by omega), chs_gt 0 (k + 1) (by omega)]; simp
  | n + 1, 0 => by
    have h := chs_absorb n 0
    rw [chs_zero] at h ⊢
    rw [chs, chs_zero]
    omega
  | n + 1, k + 1 => by
    have h1 := chs_absorb n k
    have h2 := chs_absorb n (k + 1)
    have e1 : chs (n + 1 + 1) (k + 1 + 1) = chs (n + 1) (k + 1) + chs (n + 1) (k + 1 + 1) := rfl
    have e2 : chs (n + 1) (k + 1) = chs n k + chs n (k + 1) := rfl
    rw [e1]
    generalize chs (n + 1) (k + 1) = A at *
    generalize chs (n + 1) (k + 1 + 1) = B at *
    generalize chs n k = C at *
    generalize chs n (k + 1) = D at *
    grind
/-- the sum of the first m terms -/
def bsum (n a : Nat) : Nat → Nat
  | 0 => 0
  | m + 1 => bsum n a m + chs n m * a ^ m
theorem bsum_step (n a m : Nat) : bsum (n + 1) a (m + 1) = bsum n a (m + 1) + a * bsum n a m := by
  induction m with
  | zero => simp [bsum, chs_zero]
  | succ m ih =>
    rw [bsum, ih, show bsum n a (m + 1 + 1) = bsum n a (m + 1) + chs n (m + 1) * a ^ (m + 1) from rfl, show bsum n a (m + 1) = bsum n a m + chs n m * a ^ m from rfl, show chs (n + 1) (m + 1) = chs n m + chs n (m + 1) from rfl, Nat.pow_succ]
    generalize a ^ m = P
    grind
theorem bsum_all (n a : Nat) : bsum n a (n + 1) = (a + 1) ^ n := by
  induction n with
  | zero => simp [bsum, chs]
  | succ n ih =>
    have e : bsum n a (n + 1 + 1) = bsum n a (n + 1) := by rw [bsum, chs_gt n (n + 1) (by omega)]; simp
    rw [bsum_step, e, ih, Nat.pow_succ]
    grind
theorem Prm.chs_dvd {p : Nat} (hp : Prm p) {k : Nat} (h0 : 0 < k) (hk : k < p) : p ∣ chs p k := by
  obtain ⟨j, rfl⟩ : ∃ j, k = j + 1 := ⟨k - 1, by omega⟩
  obtain ⟨q, rfl⟩ : ∃ q, p = q + 1 := ⟨p - 1, by omega⟩
  have h := chs_absorb q j
  have hd : q + 1 ∣ (j + 1) * chs (q + 1) (j + 1) := h ▸ Nat.dvd_mul_right _ _
  rcases hp.dvd_mul hd with h1 | h1
  · exact absurd (Nat.le_of_dvd (by omega) h1) (by omega)
  · exact h1
theorem Prm.bsum_mod {p : Nat} (hp : Prm p) (a : Nat) : ∀ m, m < p → bsum p a (m + 1) % p = 1 % p
  | 0, _ => by simp [bsum, chs_zero]
  | m + 1, hm => by
    obtain ⟨c, hc⟩ := hp.chs_dvd (k := m + 1) (by omega) hm
    rw [bsum, hc, Nat.mul_assoc, Nat.add_mul_mod_self_left]
    exact hp.bsum_mod a m (by omega)
theorem Prm.fermat {p : Nat} (hp : Prm p) (a : Nat) : a ^ p % p = a % p := by
  induction a with
  | zero => rw [Nat.zero_pow (by have := hp.1; omega)]
  | succ a ih =>
    obtain ⟨q, hq⟩ : ∃ q, p = q + 1 := ⟨p - 1, by have := hp.1; omega⟩
    have h1 : bsum p a (p + 1) = bsum p a p + chs p p * a ^ p := rfl
    have h2 : bsum p a p % p = 1 % p := by
      have := hp.bsum_mod a q (by omega)
      rwa [← hq] at this
    rw [← bsum_all, h1, chs_self, Nat.one_mul, Nat.add_mod, h2, ih, ← Nat.add_mod, Nat.add_comm]
theorem Prm.fermat1 {p : Nat} (hp : Prm p) {a : Nat} (ha : ¬ p ∣ a) : a ^ (p - 1) % p = 1 := by
  have h := hp.fermat a
  obtain ⟨q, hq⟩ : ∃ q, p = q + 1 := ⟨p - 1, by have := hp.1; omega⟩
  have hq1 : p - 1 = q := by omega
  have hpow : a ^ p = a ^ q * a := by rw [hq, Nat.pow_succ]
  rw [hq1]
  rw [hpow] at h
  have hge : 1 ≤ a ^ q := Nat.pow_pos (Nat.pos_of_ne_zero fun h0 => ha (h0 ▸ Nat.dvd_zero p))
  have hle : a ≤ a ^ q * a := Nat.le_mul_of_pos_left a hge
  have hd : p ∣ a ^ q * a - a := (Nat.dvd_of_mod_eq_zero (Nat.sub_mod_eq_zero_of_mod_eq h))
  have e : a ^ q * a - a = a * (a ^ q - 1) := by rw [Nat.mul_sub, Nat.mul_one, Nat.mul_comm]
  rw [e] at hd
  rcases hp.dvd_mul hd with h1 | h1
  · exact absurd h1 ha
  · obtain ⟨c, hc⟩ := h1
    have : a ^ q = p * c + 1 := by omega
    rw [this, Nat.mul_add_mod]
    exact Nat.mod_eq_of_lt hp.1

/-! ### a combination of two that have no common factor -/
theorem bez : ∀ (n a b : Nat), a + b ≤ n → 0 < a → 0 < b → Nat.gcd a b = 1 → ∃ u v, u * a = v * b + 1
  | 0, a, b, h, ha, _, _ => by omega
  | n + 1, a, b, h, ha, hb, hg => by
    rcases Nat.lt_trichotomy a b with hab | rfl | hab
    · have hg' : Nat.gcd a (b - a) = 1 := by rw [Nat.gcd_sub_self_right (by omega)]; exact hg
      obtain ⟨u, v, e⟩ := bez n a (b - a) (by omega) ha (by omega) hg'
      refine ⟨u + v, v, ?_⟩
      rw [Nat.add_mul, e, show v * b = v * (b - a) + v * a by rw [← Nat.mul_add, Nat.sub_add_cancel (by omega)]]
      omega
    · rw [Nat.gcd_self] at hg
      subst hg
      exact ⟨1, 0, rfl⟩
    · have hg' : Nat.gcd (a - b) b = 1 := by rw [Nat.gcd_comm, Nat.gcd_sub_self_right (by omega), Nat.gcd_comm]; exact hg
      obtain ⟨u, v, e⟩ := bez n (a - b) b (by omega) (by omega) hb hg'
      refine ⟨u, v + u, ?_⟩
      rw [show u * a = u * (a - b) + u * b by rw [← Nat.mul_add, Nat.sub_add_cancel (by omega)], e, Nat.add_mul]
      omega

/-- what a prime factor of N leaves, where q goes into N - 1 -/
theorem pock {N q M a r : Nat} (hq : Prm q) (hN : N = q * M + 1) (h1 : a ^ (q * M) % N = 1) (hg : Nat.gcd N (a ^ M % N + (N - 1)) = 1) (hr : Prm r) (hrN : r ∣ N) : q ∣ r - 1 := by
  apply Classical.byContradiction
  intro hnd
  have hr2 := hr.1
  have hra : ¬ r ∣ a := by
    intro h
    obtain ⟨c, hc⟩ := hrN
    have hM : 0 < q * M := by
      have : 2 ≤ N := Nat.le_trans hr2 (Nat.le_of_dvd (by omega) ⟨c, hc⟩)
      omega
    have e : a ^ (q * M) = N * (a ^ (q * M) / N) + 1 := by
      have := Nat.div_add_mod (a ^ (q * M)) N
      omega
    have h3 : r ∣ a ^ (q * M) := Nat.dvd_trans h (Nat.dvd_trans (by rw [Nat.pow_one]; exact Nat.dvd_refl a) (Nat.pow_dvd_pow a hM))
    rw [e, hc, Nat.mul_assoc] at h3
    have := (Nat.dvd_add_right (Nat.dvd_mul_right r _)).1 h3
    have := Nat.le_of_dvd (by decide) this
    omega
  have hb1 : (a ^ M) ^ q % r = 1 := by
    rw [← Nat.pow_mul, Nat.mul_comm]
    have := Nat.mod_mod_of_dvd (a ^ (q * M)) hrN
    rw [← this, h1]
    exact Nat.mod_eq_of_lt hr2
  have hb2 : (a ^ M) ^ (r - 1) % r = 1 := hr.fermat1 fun h => hra (by
    have : ∀ m, r ∣ a ^ m → r ∣ a := by
      intro m
      induction m with
      | zero => intro h; exact absurd (Nat.le_of_dvd (by rw [Nat.pow_zero]; decide) h) (by rw [Nat.pow_zero]; omega)
      | succ m ih =>
        intro h
        rw [Nat.pow_succ] at h
        rcases hr.dvd_mul h with h | h
        · exact ih h
        · exact h
    exact this M h)
  generalize hB : a ^ M = B at hb1 hb2
  obtain ⟨u, v, e⟩ := bez (q + (r - 1)) q (r - 1) (Nat.le_refl _) (by have := hq.1; omega) (by omega) (hq.cop hnd)
  have p1 : ∀ m, (B ^ q) ^ m % r = 1 := fun m => by rw [Nat.pow_mod, hb1, Nat.one_pow]; exact Nat.mod_eq_of_lt hr2
  have p2 : ∀ m, (B ^ (r - 1)) ^ m % r = 1 := fun m => by rw [Nat.pow_mod, hb2, Nat.one_pow]; exact Nat.mod_eq_of_lt hr2
  have hBr : B % r = 1 := by
    have h3 := p1 u
    rw [← Nat.pow_mul, Nat.mul_comm q u, e, Nat.pow_succ, Nat.mul_mod, Nat.mul_comm v, Nat.pow_mul, p2, Nat.one_mul, Nat.mod_mod] at h3
    exact h3
  have hd : r ∣ a ^ M % N + (N - 1) := by
    apply Nat.dvd_of_mod_eq_zero
    rw [hB, Nat.add_mod, Nat.mod_mod_of_dvd _ hrN, hBr]
    obtain ⟨c, hc⟩ := hrN
    have hc1 : 1 ≤ c := by
      rcases Nat.eq_zero_or_pos c with h | h
      · subst h; rw [Nat.mul_zero] at hc; omega
      · exact h
    have e2 : (N - 1) % r = r - 1 := by
      have : N - 1 = r * (c - 1) + (r - 1) := by
        have : r * c = r * (c - 1) + r := by rw [← Nat.mul_succ, Nat.succ_eq_add_one, Nat.sub_add_cancel hc1]
        omega
      rw [this, Nat.mul_add_mod]
      exact Nat.mod_eq_of_lt (by omega)
    rw [e2, show 1 + (r - 1) = r by omega, Nat.mod_self]
  have := Nat.dvd_gcd hrN hd
  rw [hg] at this
  have := Nat.le_of_dvd (by decide) this
  omega
/-- every number has a prime factor; a compound number one that is small -/
theorem small_factor : ∀ (n N : Nat), N ≤ n → 2 ≤ N → ¬ Prm N → ∃ r, Prm r ∧ r ∣ N ∧ r * r ≤ N
  | 0, N, h, h2, _ => by omega
  | n + 1, N, h, h2, hN => by
    have hex : ∃ m, m ∣ N ∧ m ≠ 1 ∧ m ≠ N := by
      apply Classical.byContradiction
      intro hno
      refine hN ⟨h2, fun m hm => ?_⟩
      apply Classical.byContradiction
      intro hm2
      exact hno ⟨m, hm, fun h => hm2 (.inl h), fun h => hm2 (.inr h)⟩
    obtain ⟨m, ⟨c, hc⟩, hm1, hmN⟩ := hex
    have hm0 : m ≠ 0 := fun h => by subst h; rw [Nat.zero_mul] at hc; omega
    have hc0 : c ≠ 0 := fun h => by subst h; rw [Nat.mul_zero] at hc; omega
    have hc1 : c ≠ 1 := fun h => by subst h; rw [Nat.mul_one] at hc; omega
    have hmm : ∃ d e, N = d * e ∧ d ≤ e ∧ 2 ≤ d := by
      rcases Nat.le_total m c with h | h
      · exact ⟨m, c, hc, h, by omega⟩
      · exact ⟨c, m, by rw [hc, Nat.mul_comm], h, by omega⟩
    obtain ⟨d, e, he, hde, hd2⟩ := hmm
    have hdd : d * d ≤ N := by rw [he]; exact Nat.mul_le_mul_left d hde
    have hdN : d < N := by
      have := Nat.mul_le_mul_right d hd2
      omega
    by_cases hdp : Prm d
    · exact ⟨d, hdp, ⟨e, he⟩, hdd⟩
    · obtain ⟨r, hr, hrd, hrr⟩ := small_factor n d (by omega) hd2 hdp
      refine ⟨r, hr, Nat.dvd_trans hrd ⟨e, he⟩, Nat.le_trans hrr (Nat.le_of_lt hdN)⟩
/-- trial -/
theorem prm_trial {N s : Nat} (h2 : 2 ≤ N) (hs : N < (s + 2) * (s + 2)) (h : (List.range s).all (fun i => N % (i + 2) != 0) = true) : Prm N := by
  apply Classical.byContradiction
  intro hN
  obtain ⟨r, hr, hrN, hrr⟩ := small_factor N N (Nat.le_refl _) h2 hN
  have hr2 := hr.1
  have hlt : r < s + 2 := by
    apply Classical.byContradiction
    intro hge
    have := Nat.mul_le_mul (show s + 2 ≤ r by omega) (show s + 2 ≤ r by omega)
    omega
  have := List.all_eq_true.1 h (r - 2) (List.mem_range.2 (by omega))
  rw [show r - 2 + 2 = r by omega, Nat.mod_eq_zero_of_dvd hrN] at this
  simp at this
/-- by one prime factor of N - 1 that is large, or by two -/
theorem prm_one {N q M a : Nat} (hq : Prm q) (h2 : 2 ≤ N) (hN : N = q * M + 1) (h1 : a ^ (q * M) % N = 1) (hg : Nat.gcd N (a ^ M % N + (N - 1)) = 1) (hbig : N < (q + 1) * (q + 1)) : Prm N := by
  apply Classical.byContradiction
  intro hno
  obtain ⟨r, hr, hrN, hrr⟩ := small_factor N N (Nat.le_refl _) h2 hno
  have h3 := pock hq hN h1 hg hr hrN
  have hr2 := hr.1
  have h4 := Nat.le_of_dvd (by omega) h3
  have := Nat.mul_le_mul (show q + 1 ≤ r by omega) (show q + 1 ≤ r by omega)
  omega
theorem prm_two {N q M a p L b : Nat} (hq : Prm q) (hp : Prm p) (hpq : q ≠ p) (h2 : 2 ≤ N) (hN : N = q * M + 1) (h1 : a ^ (q * M) % N = 1) (hg : Nat.gcd N (a ^ M % N + (N - 1)) = 1)
    (hN' : N = p * L + 1) (h1' : b ^ (p * L) % N = 1) (hg' : Nat.gcd N (b ^ L % N + (N - 1)) = 1) (hbig : N < (q * p + 1) * (q * p + 1)) : Prm N := by
  apply Classical.byContradiction
  intro hno
  obtain ⟨r, hr, hrN, hrr⟩ := small_factor N N (Nat.le_refl _) h2 hno
  have h3 := pock hq hN h1 hg hr hrN
  have h3' := pock hp hN' h1' hg' hr hrN
  have hr2 := hr.1
  have hc : Nat.Coprime q p := hq.cop fun h => by
    rcases hp.2 q h with h | h
    · have := hq.1; omega
    · exact hpq h
  have h4 := Nat.le_of_dvd (by omega) (Nat.Coprime.mul_dvd_of_dvd_of_dvd hc h3 h3')
  have := Nat.mul_le_mul (show q * p + 1 ≤ r by omega) (show q * p + 1 ≤ r by omega)
  omega
/-- powers, by squaring -/
def pw (N : Nat) : Nat → Nat → Nat → Nat
  | 0, _, _ => 1 % N
  | f + 1, a, e => if e = 0 then 1 % N else if e % 2 = 1 then a * pw N f (a * a % N) (e / 2) % N else pw N f (a * a % N) (e / 2)
theorem pw_eq (N : Nat) : ∀ (f a e : Nat), e < 2 ^ f → pw N f a e = a ^ e % N
  | 0, a, e, h => by obtain rfl : e = 0 := by simpa using h
                     rfl
  | f + 1, a, e, h => by
    rw [Nat.pow_succ] at h
    have ih := pw_eq N f (a * a % N) (e / 2) (by omega)
    have h2 : (a * a % N) ^ (e / 2) % N = a ^ (2 * (e / 2)) % N := by rw [← Nat.pow_mod, Nat.pow_mul, Nat.pow_two]
    rw [pw]
    by_cases h0 : e = 0
    · rw [if_pos h0, h0, Nat.pow_zero]
    · rw [if_neg h0, ih, h2]
      by_cases h1 : e % 2 = 1
      · have e1 : e = 2 * (e / 2) + 1 := by omega
        rw [if_pos h1, Nat.mul_mod_mod]
        generalize e / 2 = m at *
        rw [e1, Nat.pow_succ, Nat.mul_comm]
      · have e1 : 2 * (e / 2) = e := by omega
        rw [if_neg h1, e1]
theorem pow_of {N a e x f : Nat} (hf : e < 2 ^ f) (h : pw N f a e = x) : a ^ e % N = x := by rw [← pw_eq N f a e hf, h]
theorem prm_one' {N q M a : Nat} (hq : Prm q) (h2 : 2 ≤ N) (hN : N = q * M + 1) (f1 : q * M < 2 ^ 256) (f2 : M < 2 ^ 256) (h1 : pw N 256 a (q * M) = 1) (hg : Nat.gcd N (pw N 256 a M + (N - 1)) = 1) (hbig : N < (q + 1) * (q + 1)) : Prm N :=
  prm_one hq h2 hN (pow_of f1 h1) (by rw [← pw_eq N 256 a M f2]; exact hg) hbig
theorem prm_two' {N q M a p L b : Nat} (hq : Prm q) (hp : Prm p) (hpq : q ≠ p) (h2 : 2 ≤ N) (hN : N = q * M + 1) (f1 : q * M < 2 ^ 256) (f2 : M < 2 ^ 256) (h1 : pw N 256 a (q * M) = 1) (hg : Nat.gcd N (pw N 256 a M + (N - 1)) = 1)
    (hN' : N = p * L + 1) (f1' : p * L < 2 ^ 256) (f2' : L < 2 ^ 256) (h1' : pw N 256 b (p * L) = 1) (hg' : Nat.gcd N (pw N 256 b L + (N - 1)) = 1) (hbig : N < (q * p + 1) * (q * p + 1)) : Prm N :=
  prm_two hq hp hpq h2 hN (pow_of f1 h1) (by rw [← pw_eq N 256 a M f2]; exact hg) hN' (pow_of f1' h1') (by rw [← pw_eq N 256 b L f2']; exact hg') hbig
end Go.Proofs.Ytnbdeajjfhlmnaa
