/-
  The limbs' sums, differences and products, modulo 2^255 - 19. No program in sight.
-/
import Derived.Test.YtnbdeajjfhlmnaaStoreN
namespace Go.Proofs.Ytnbdeajjfhlmnaa
open Go.RowKit

theorem pp_lit : pp = 57896044618658097711785492504343953926634992332820282019728792003956564819949 := by decide
theorem lval_lit (x : L5) : lval x = x.a0 + x.a1 * 2251799813685248 + x.a2 * 5070602400912917605986812821504 + x.a3 * 11417981541647679048466287755595961091061972992 + x.a4 * 25711008708143844408671393477458601640355247900524685364822016 := by
  simp only [lval, show (2 : Nat) ^ 51 = 2251799813685248 from rfl, show (2 : Nat) ^ 102 = 5070602400912917605986812821504 from by decide,
    show (2 : Nat) ^ 153 = 11417981541647679048466287755595961091061972992 from by decide, show (2 : Nat) ^ 204 = 25711008708143844408671393477458601640355247900524685364822016 from by decide]
theorem load_mod (n : Nat) : lval (loadL n) % pp = n % pp := by
  have e : lval (loadL n) + pp * (n / M255) = n := by
    rw [lval_lit, pp_lit]
    simp only [loadL, M255, show (2 : Nat) ^ 51 = 2251799813685248 from rfl, show (2 : Nat) ^ 102 = 5070602400912917605986812821504 from by decide,
      show (2 : Nat) ^ 153 = 11417981541647679048466287755595961091061972992 from by decide, show (2 : Nat) ^ 204 = 25711008708143844408671393477458601640355247900524685364822016 from by decide,
      show (2 : Nat) ^ 255 = 57896044618658097711785492504343953926634992332820282019728792003956564819968 from by decide]
    omega
  rw [← Nat.add_mul_mod_self_left _ pp (n / M255), e]
theorem add_mod (x y : L5) : lval (addL x y) % pp = (lval x + lval y) % pp := by
  rw [addL, carry_mod]
  congr 1
  rw [lval_lit, lval_lit, lval_lit]
  simp [addTo]
  omega
theorem addL_loose {x y : L5} (hx : Loose x) (hy : Loose y) : Loose (addL x y) := carry_loose (addTo_w5 hx hy)
theorem subL_loose {x y : L5} (hx : Loose x) (_ : W5 y) : Loose (subL x y) := carry_loose (subTo_w5 hx _)

/-- n - m, in the field -/
def subP (n m : Nat) : Nat := (n + (pp - m % pp)) % pp
theorem subP_of {a n m t : Nat} (h : (a + t) % pp = n % pp) (ht : t % pp = m % pp) : a % pp = subP n m := by
  have h1 : a % pp = ((a + t) + (pp - t % pp)) % pp := by
    have hl : t % pp < pp := Nat.mod_lt _ (by decide)
    have : (a + t) + (pp - t % pp) = a + pp * (t / pp + 1) := by
      have := Nat.div_add_mod t pp
      rw [Nat.mul_add]
      omega
    rw [this, Nat.add_mul_mod_self_left]
  rw [h1, Nat.add_mod, h, ← Nat.add_mod, ht, subP]
theorem subTo_val {x y : L5} (h : ∀ k, k < 5 → y.get k ≤ 4503599627370458) : lval (subTo x y 5) + lval y = lval x + 2 * pp := by
  have h0 := h 0 (by decide); have h1 := h 1 (by decide); have h2 := h 2 (by decide); have h3 := h 3 (by decide); have h4 := h 4 (by decide)
  simp only [L5.get] at h0 h1 h2 h3 h4
  rw [lval_lit, lval_lit, lval_lit, pp_lit]
  simp [subTo]
  omega
theorem subL_mod {x y : L5} (hy : W5 y) {n m : Nat} (hn : lval x % pp = n % pp) (hm : lval y % pp = m % pp) : lval (subL x y) % pp = subP n m := by
  rw [subL, carry_mod]
  refine subP_of (t := lval (carryL y)) ?_ (by rw [carry_mod, hm])
  rw [subTo_val (carry_tight hy), Nat.mul_comm, Nat.add_mul_mod_self_left, hn]
theorem sub_mod {n m : Nat} (hm : m < 2 ^ 256) : lval (subL (loadL n) (loadL m)) % pp = subP n m := subL_mod (load_loose hm).w5 (load_mod n) (load_mod m)

/-! ### products -/
def polyV (r : Nat → Nat) (B : Nat) : Nat := r 0 + r 1 * B + r 2 * (B * B) + r 3 * (B * B * B) + r 4 * (B * B * B * B)
theorem zTo_val {r : Nat → Nat} (h : SmallR r) : lval (zTo r 5) % pp = polyV r 2251799813685248 % pp := by
  have h0 := h.1 0 (by decide); have h1 := h.1 1 (by decide); have h2 := h.1 2 (by decide); have h3 := h.1 3 (by decide); have h4 := h.2
  have e : lval (zTo r 5) + pp * (r 4 / 2251799813685248) = polyV r 2251799813685248 := by
    rw [lval_lit, pp_lit]
    simp only [zTo, polyV]
    omega
  rw [← e, Nat.add_mul_mod_self_left]
theorem mul_ring (x0 x1 x2 x3 x4 y0 y1 y2 y3 y4 B : Nat) :
    (x0 * y0 + 19 * x1 * y4 + 19 * x2 * y3 + 19 * x3 * y2 + 19 * x4 * y1) + (x0 * y1 + x1 * y0 + 19 * x2 * y4 + 19 * x3 * y3 + 19 * x4 * y2) * B +
      (x0 * y2 + x1 * y1 + x2 * y0 + 19 * x3 * y4 + 19 * x4 * y3) * (B * B) + (x0 * y3 + x1 * y2 + x2 * y1 + x3 * y0 + 19 * x4 * y4) * (B * B * B) +
      (x0 * y4 + x1 * y3 + x2 * y2 + x3 * y1 + x4 * y0) * (B * B * B * B) +
      (B * B * B * B * B) * ((x1 * y4 + x2 * y3 + x3 * y2 + x4 * y1) + (x2 * y4 + x3 * y3 + x4 * y2) * B + (x3 * y4 + x4 * y3) * (B * B) + x4 * y4 * (B * B * B)) =
    (x0 + x1 * B + x2 * (B * B) + x3 * (B * B * B) + x4 * (B * B * B * B)) * (y0 + y1 * B + y2 * (B * B) + y3 * (B * B * B) + y4 * (B * B * B * B)) +
      19 * ((x1 * y4 + x2 * y3 + x3 * y2 + x4 * y1) + (x2 * y4 + x3 * y3 + x4 * y2) * B + (x3 * y4 + x4 * y3) * (B * B) + x4 * y4 * (B * B * B)) := by grind
theorem mul_ring' (x0 x1 x2 x3 x4 y0 y1 y2 y3 y4 B P : Nat) (h : B * B * B * B * B = P + 19) :
    (x0 * y0 + 19 * x1 * y4 + 19 * x2 * y3 + 19 * x3 * y2 + 19 * x4 * y1) + (x0 * y1 + x1 * y0 + 19 * x2 * y4 + 19 * x3 * y3 + 19 * x4 * y2) * B +
      (x0 * y2 + x1 * y1 + x2 * y0 + 19 * x3 * y4 + 19 * x4 * y3) * (B * B) + (x0 * y3 + x1 * y2 + x2 * y1 + x3 * y0 + 19 * x4 * y4) * (B * B * B) +
      (x0 * y4 + x1 * y3 + x2 * y2 + x3 * y1 + x4 * y0) * (B * B * B * B) +
      P * ((x1 * y4 + x2 * y3 + x3 * y2 + x4 * y1) + (x2 * y4 + x3 * y3 + x4 * y2) * B + (x3 * y4 + x4 * y3) * (B * B) + x4 * y4 * (B * B * B)) =
    (x0 + x1 * B + x2 * (B * B) + x3 * (B * B * B) + x4 * (B * B * B * B)) * (y0 + y1 * B + y2 * (B * B) + y3 * (B * B * B) + y4 * (B * B * B * B)) := by
  refine Nat.add_right_cancel (m := 19 * ((x1 * y4 + x2 * y3 + x3 * y2 + x4 * y1) + (x2 * y4 + x3 * y3 + x4 * y2) * B + (x3 * y4 + x4 * y3) * (B * B) + x4 * y4 * (B * B * B))) ?_
  rw [Nat.add_assoc, ← Nat.add_mul, ← h]
  exact mul_ring x0 x1 x2 x3 x4 y0 y1 y2 y3 y4 B
theorem lval_poly (x : L5) : lval x = x.get 0 + x.get 1 * 2251799813685248 + x.get 2 * (2251799813685248 * 2251799813685248) + x.get 3 * (2251799813685248 * 2251799813685248 * 2251799813685248) +
    x.get 4 * (2251799813685248 * 2251799813685248 * 2251799813685248 * 2251799813685248) := by
  rw [lval_lit]
  simp only [L5.get]
theorem mulR_val {x y : L5} (hx : Loose x) (hy : Loose y) : polyV (mulR x y) 2251799813685248 % pp = lval x * lval y % pp := by
  have a : ∀ k, x.get k ≤ 19 * 4503599627370495 := fun k => Nat.le_trans (hx.get k) (by decide)
  have b : ∀ k, 19 * x.get k ≤ 19 * 4503599627370495 := fun k => Nat.mul_le_mul_left 19 (hx.get k)
  have c := hy.get
  have e0 := (rowN_small (p110 (a 0) (c 0)) (p110 (b 1) (c 4)) (p110 (b 2) (c 3)) (p110 (b 3) (c 2)) (p110 (b 4) (c 1))).1
  have e1 := (rowN_small (p110 (a 0) (c 1)) (p110 (a 1) (c 0)) (p110 (b 2) (c 4)) (p110 (b 3) (c 3)) (p110 (b 4) (c 2))).1
  have e2 := (rowN_small (p110 (a 0) (c 2)) (p110 (a 1) (c 1)) (p110 (a 2) (c 0)) (p110 (b 3) (c 4)) (p110 (b 4) (c 3))).1
  have e3 := (rowN_small (p110 (a 0) (c 3)) (p110 (a 1) (c 2)) (p110 (a 2) (c 1)) (p110 (a 3) (c 0)) (p110 (b 4) (c 4))).1
  have e4 := (rowN_small (p110 (a 0) (c 4)) (p110 (a 1) (c 3)) (p110 (a 2) (c 2)) (p110 (a 3) (c 1)) (p110 (a 4) (c 0))).1
  have hr := mul_ring' (x.get 0) (x.get 1) (x.get 2) (x.get 3) (x.get 4) (y.get 0) (y.get 1) (y.get 2) (y.get 3) (y.get 4) 2251799813685248 pp (by decide)
  rw [← lval_poly, ← lval_poly] at hr
  rw [← hr, Nat.add_mul_mod_self_left]
  congr 1
  simp only [polyV, mulR, e0, e1, e2, e3, e4]
theorem mul_mod {x y : L5} (hx : Loose x) (hy : Loose y) : lval (mulL x y) % pp = lval x * lval y % pp := by
  rw [mulL, carry_mod, zTo_val (mulR_small hx hy), mulR_val hx hy]
theorem mulL_loose {x y : L5} (hx : Loose x) (hy : Loose y) : Loose (mulL x y) := carry_loose (zTo_w5 (mulR_small hx hy))

/-! ### sums and products of lists -/
def sumT (l : List Nat) : Nat → Nat
  | 0 => 0
  | k + 1 => sumT l k + l.getD k 0
def prodT (l : List Nat) : Nat → Nat
  | 0 => 1
  | k + 1 => prodT l k * l.getD k 0
def accT (l : List Nat) : Nat → L5
  | 0 => ⟨0, 0, 0, 0, 0⟩
  | k + 1 => addL (accT l k) (loadL (l.getD k 0))
def mulT (l : List Nat) : Nat → L5
  | 0 => loadL (l.getD 0 0)
  | k + 1 => mulL (mulT l k) (loadL (l.getD (k + 1) 0))
theorem accT_loose {l : List Nat} (hl : ∀ j, l.getD j 0 < 2 ^ 256) (k : Nat) : Loose (accT l k) := by
  induction k with
  | zero => exact ⟨Nat.zero_lt_succ _, Nat.zero_lt_succ _, Nat.zero_lt_succ _, Nat.zero_lt_succ _, Nat.zero_lt_succ _⟩
  | succ k ih => exact addL_loose ih (load_loose (hl k))
theorem accT_mod (l : List Nat) (k : Nat) : lval (accT l k) % pp = sumT l k % pp := by
  induction k with
  | zero => rw [accT, lval_lit, sumT]; simp
  | succ k ih => rw [accT, add_mod, Nat.add_mod, ih, load_mod, ← Nat.add_mod, sumT]
theorem mulT_loose {l : List Nat} (hl : ∀ j, l.getD j 0 < 2 ^ 256) (k : Nat) : Loose (mulT l k) := by
  induction k with
  | zero => exact load_loose (hl 0)
  | succ k ih => exact mulL_loose ih (load_loose (hl (k + 1)))
theorem mulT_mod {l : List Nat} (hl : ∀ j, l.getD j 0 < 2 ^ 256) (k : Nat) : lval (mulT l k) % pp = prodT l (k + 1) % pp := by
  induction k with
  | zero => rw [mulT, load_mod, prodT, prodT, Nat.one_mul]
  | succ k ih => rw [mulT, mul_mod (mulT_loose hl k) (load_loose (hl (k + 1))), Nat.mul_mod, ih, load_mod, ← Nat.mul_mod]; rfl

/-! ### powers -/
def powP (n m : Nat) : Nat := n ^ m % pp
def bitN (m k : Nat) : Nat := byteOf m (k / 8) / 2 ^ (k % 8) % 2
def sqT (n : Nat) : Nat → L5
  | 0 => loadL n
  | k + 1 => mulL (sqT n k) (sqT n k)
def powT (n m : Nat) : Nat → L5
  | 0 => ⟨1, 0, 0, 0, 0⟩
  | k + 1 => if bitN m k = 1 then mulL (powT n m k) (sqT n k) else powT n m k
theorem powT_one {n m k : Nat} (h : bitN m k = 1) : powT n m (k + 1) = mulL (powT n m k) (sqT n k) := if_pos h
theorem powT_zero {n m k : Nat} (h : ¬ bitN m k = 1) : powT n m (k + 1) = powT n m k := if_neg h
theorem sqT_loose {n : Nat} (hn : n < 2 ^ 256) (k : Nat) : Loose (sqT n k) := by
  induction k with
  | zero => exact load_loose hn
  | succ k ih => exact mulL_loose ih ih
theorem one_loose : Loose ⟨1, 0, 0, 0, 0⟩ := ⟨by decide, by decide, by decide, by decide, by decide⟩
theorem zero_loose : Loose ⟨0, 0, 0, 0, 0⟩ := ⟨by decide, by decide, by decide, by decide, by decide⟩
theorem powT_loose {n : Nat} (hn : n < 2 ^ 256) (m k : Nat) : Loose (powT n m k) := by
  induction k with
  | zero => exact one_loose
  | succ k ih =>
    by_cases h : bitN m k = 1
    · rw [powT_one h]; exact mulL_loose ih (sqT_loose hn k)
    · rw [powT_zero h]; exact ih
theorem bitN_eq (m k : Nat) : bitN m k = m / 2 ^ k % 2 := by
  have h1 : m / 2 ^ k = m / 256 ^ (k / 8) / 2 ^ (k % 8) := by
    rw [Nat.div_div_eq_div_mul, show (256 : Nat) = 2 ^ 8 from rfl, ← Nat.pow_mul, ← Nat.pow_add, Nat.div_add_mod]
  rw [h1, bitN, byteOf]
  have hlt : k % 8 < 8 := Nat.mod_lt _ (by decide)
  generalize m / 256 ^ (k / 8) = x
  generalize k % 8 = j at hlt
  have : j = 0 ∨ j = 1 ∨ j = 2 ∨ j = 3 ∨ j = 4 ∨ j = 5 ∨ j = 6 ∨ j = 7 := by omega
  rcases this with rfl | rfl | rfl | rfl | rfl | rfl | rfl | rfl <;> omega
theorem mod_pow_succ (m k : Nat) : m % 2 ^ (k + 1) = m % 2 ^ k + 2 ^ k * (m / 2 ^ k % 2) := by
  rw [Nat.pow_succ, Nat.mod_mul]
theorem sqT_mod {n : Nat} (hn : n < 2 ^ 256) (k : Nat) : lval (sqT n k) % pp = n ^ 2 ^ k % pp := by
  induction k with
  | zero => rw [sqT, load_mod, Nat.pow_zero, Nat.pow_one]
  | succ k ih => rw [sqT, mul_mod (sqT_loose hn k) (sqT_loose hn k), Nat.mul_mod, ih, ← Nat.mul_mod, ← Nat.pow_add, Nat.pow_succ, Nat.mul_two]
theorem powT_mod {n : Nat} (hn : n < 2 ^ 256) (m k : Nat) : lval (powT n m k) % pp = n ^ (m % 2 ^ k) % pp := by
  induction k with
  | zero => rw [powT, lval_lit, Nat.pow_zero, Nat.mod_one, Nat.pow_zero]; simp
  | succ k ih =>
    have hb := bitN_eq m k
    rw [mod_pow_succ]
    by_cases h : bitN m k = 1
    · rw [powT_one h, mul_mod (powT_loose hn m k) (sqT_loose hn k), Nat.mul_mod, ih, sqT_mod hn, ← Nat.mul_mod, ← Nat.pow_add, ← hb, h, Nat.mul_one]
    · have h0 : bitN m k = 0 := by have : bitN m k < 2 := Nat.mod_lt _ (by decide); omega
      rw [powT_zero h, ih, ← hb, h0, Nat.mul_zero, Nat.add_zero]
theorem powT_all {n m : Nat} (hn : n < 2 ^ 256) (hm : m < 2 ^ 256) : lval (powT n m 256) % pp = powP n m := by rw [powT_mod hn, Nat.mod_eq_of_lt hm, powP]

/-- the exponent of the inverse, as it is written -/
def invE : Nat → Nat
  | 0 => 235 + 127 * 2 ^ 248
  | k + 1 => setByte (invE k) (k + 1) 255
theorem invE_all : invE 30 = pp - 2 := by decide +kernel
theorem invE_lt : invE 30 < 2 ^ 256 := by rw [invE_all]; decide

/-- a whole number, in the field -/
def ofP (a : Int) : Nat := (a % (pp : Int)).toNat
def ofL (u : Nat) : L5 := ⟨u % 2251799813685248, u / 2 ^ 51, 0, 0, 0⟩
theorem ofL_w5 {u : Nat} (h : u ≤ 9223372036854775808) : W5 (ofL u) := ⟨by simp only [ofL]; omega, by simp only [ofL]; omega, by simp only [ofL]; omega, by simp only [ofL]; omega, by simp only [ofL]; omega⟩
theorem ofL_val (u : Nat) : lval (ofL u) = u := by
  rw [lval_lit]
  simp only [ofL]
  omega
theorem of_pos {a : Int} (h : ¬ a < 0) : lval (ofL a.natAbs) % pp = ofP a := by
  rw [ofL_val, ofP]
  have : a = (a.natAbs : Int) := by omega
  generalize a.natAbs = u at *
  subst this
  rw [← Int.natCast_emod, Int.toNat_natCast]
theorem of_neg {a : Int} (h : a < 0) (hu : a.natAbs ≤ 9223372036854775808) : lval (subL ⟨0, 0, 0, 0, 0⟩ (ofL a.natAbs)) % pp = ofP a := by
  have h1 := subL_mod (x := ⟨0, 0, 0, 0, 0⟩) (y := ofL a.natAbs) (ofL_w5 hu) (n := 0) (m := a.natAbs) (by rw [lval_lit]; simp) (by rw [ofL_val])
  rw [h1]
  have : a = -(a.natAbs : Int) := by omega
  generalize a.natAbs = u at *
  subst this
  rw [subP, ofP, pp_lit]
  omega
end Go.Proofs.Ytnbdeajjfhlmnaa
