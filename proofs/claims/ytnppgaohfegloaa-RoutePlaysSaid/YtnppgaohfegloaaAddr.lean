/-
  Bits of an address, and what is left of it when the bits behind a prefix are cleared. No program in sight.
-/
import Derived.Test.YtnppgaohfegloaaCells
namespace Go.Proofs.Ytnppgaohfegloaa
open Go.RowKit

def bitA (n i : Nat) : Nat := n / 2 ^ (127 - i) % 2
theorem bitA_lt (n i : Nat) : bitA n i < 2 := Nat.mod_lt _ (by decide)
theorem pow_256 (k : Nat) : 256 ^ k = 2 ^ (8 * k) := by rw [show (256 : Nat) = 2 ^ 8 from rfl, ← Nat.pow_mul]
theorem byte_bit (n i : Nat) (hi : i < 128) : byteOf n (15 - i / 8) / 2 ^ (7 - i % 8) % 2 = bitA n i := by
  have hs : 7 - i % 8 < 8 := by omega
  have e : 8 * (15 - i / 8) + (7 - i % 8) = 127 - i := by omega
  unfold byteOf bitA
  rw [← e, Nat.pow_add, ← pow_256, ← Nat.div_div_eq_div_mul]
  generalize n / 256 ^ (15 - i / 8) = x
  have : 7 - i % 8 = 0 ∨ 7 - i % 8 = 1 ∨ 7 - i % 8 = 2 ∨ 7 - i % 8 = 3 ∨ 7 - i % 8 = 4 ∨ 7 - i % 8 = 5 ∨ 7 - i % 8 = 6 ∨ 7 - i % 8 = 7 := by omega
  rcases this with h | h | h | h | h | h | h | h <;> rw [h] <;> omega

/-- a byte put anew, as a sum -/
theorem ofB_put (n k c : Nat) (K : Nat) (hk : k < K) : ofB (fun i => if i = k then c else byteOf n i) K + byteOf n k * 256 ^ k = ofB (byteOf n) K + c * 256 ^ k := by
  induction K with
  | zero => omega
  | succ K ih =>
    simp only [ofB]
    by_cases h : k = K
    · subst h
      rw [if_pos rfl, ofB_congr (g := byteOf n) k (fun i hi => by rw [if_neg (by omega)])]
      omega
    · rw [if_neg (by omega)]
      have := ih (by omega)
      generalize ofB (fun i => if i = k then c else byteOf n i) K = A at *
      generalize ofB (byteOf n) K = B at *
      omega
theorem setB_sum {n j c : Nat} (hn : n < 2 ^ 128) (hj : j < 16) : setB n j c + byteOf n (15 - j) * 256 ^ (15 - j) = n + c * 256 ^ (15 - j) := by
  have h := ofB_put n (15 - j) c 16 (by omega)
  rw [ofB_self, show (256 : Nat) ^ 16 = 2 ^ 128 from rfl, Nat.mod_eq_of_lt hn] at h
  exact h
/-- one bit cleared -/
theorem setB_clear {n i : Nat} (hn : n < 2 ^ 128) (hi : i < 128) : setB n (i / 8) (byteOf n (15 - i / 8) - bitA n i * 2 ^ (7 - i % 8)) = n - bitA n i * 2 ^ (127 - i) := by
  have h := setB_sum (c := byteOf n (15 - i / 8) - bitA n i * 2 ^ (7 - i % 8)) hn (show i / 8 < 16 by omega)
  have hb := byte_bit n i hi
  have e : 2 ^ (7 - i % 8) * 256 ^ (15 - i / 8) = 2 ^ (127 - i) := by rw [pow_256, ← Nat.pow_add]; congr 1; omega
  have hle : bitA n i * 2 ^ (7 - i % 8) ≤ byteOf n (15 - i / 8) := by
    rw [← hb]
    have h1 := Nat.div_mul_le_self (byteOf n (15 - i / 8)) (2 ^ (7 - i % 8))
    have h2 : byteOf n (15 - i / 8) / 2 ^ (7 - i % 8) % 2 ≤ byteOf n (15 - i / 8) / 2 ^ (7 - i % 8) := Nat.mod_le _ _
    exact Nat.le_trans (Nat.mul_le_mul_right _ h2) h1
  rw [Nat.sub_mul, Nat.mul_assoc, e] at h
  have h3 : bitA n i * 2 ^ (127 - i) ≤ byteOf n (15 - i / 8) * 256 ^ (15 - i / 8) := by rw [← e, ← Nat.mul_assoc]; exact Nat.mul_le_mul_right _ hle
  generalize setB n (i / 8) (byteOf n (15 - i / 8) - bitA n i * 2 ^ (7 - i % 8)) = s at *
  generalize byteOf n (15 - i / 8) * 256 ^ (15 - i / 8) = p at *
  generalize bitA n i * 2 ^ (127 - i) = q at *
  clear hn
  omega

/-- the address whose bits behind the first b are nought -/
def topN (n b : Nat) : Nat := n / 2 ^ (128 - b) * 2 ^ (128 - b)
/-- .. up to the bit i -/
def clr (n b i : Nat) : Nat := topN n b + n % 2 ^ (128 - i)
theorem topN_le (n b : Nat) : topN n b ≤ n := Nat.div_mul_le_self _ _
theorem clr_start (n b : Nat) : clr n b b = n := by rw [clr, topN]; exact Nat.div_add_mod' _ _
theorem clr_end (n b : Nat) : clr n b 128 = topN n b := by rw [clr, Nat.sub_self, Nat.pow_zero, Nat.mod_one]; rfl
theorem clr_le (n : Nat) {b i : Nat} (h : b ≤ i) : clr n b i ≤ n := by
  have h1 : n % 2 ^ (128 - i) ≤ n % 2 ^ (128 - b) := by
    have hp : 2 ^ (128 - i) ∣ 2 ^ (128 - b) := Nat.pow_dvd_pow 2 (by omega)
    rw [← Nat.mod_mod_of_dvd n hp]
    exact Nat.mod_le _ _
  have h2 := clr_start n b
  rw [clr] at h2 ⊢
  omega
theorem mod_bit (n : Nat) {i : Nat} (hi : i < 128) : n % 2 ^ (128 - i) = bitA n i * 2 ^ (127 - i) + n % 2 ^ (127 - i) := by
  rw [show 128 - i = 127 - i + 1 by omega, Nat.pow_succ, Nat.mod_mul, bitA]
  generalize n / 2 ^ (127 - i) % 2 = x
  rw [Nat.mul_comm (2 ^ (127 - i)) x]
  omega
theorem clr_bit (n : Nat) {b i : Nat} (h : b ≤ i) (hi : i < 128) : bitA (clr n b i) i = bitA n i := by
  have hp : 0 < 2 ^ (127 - i) := Nat.pow_pos (by decide)
  have e : topN n b = n / 2 ^ (128 - b) * 2 ^ (i - b) * 2 * 2 ^ (127 - i) := by
    rw [topN, Nat.mul_assoc, Nat.mul_assoc, ← Nat.pow_succ', ← Nat.pow_add]
    congr 2
    omega
  have hlt : n % 2 ^ (127 - i) < 2 ^ (127 - i) := Nat.mod_lt _ hp
  have hb := bitA_lt n i
  rw [bitA, clr, e, mod_bit n hi]
  generalize bitA n i = x at *
  generalize n / 2 ^ (128 - b) * 2 ^ (i - b) = y at *
  generalize n % 2 ^ (127 - i) = z at *
  generalize 2 ^ (127 - i) = p at *
  rw [← Nat.add_assoc, ← Nat.add_mul, Nat.add_comm, Nat.add_mul_div_right _ _ hp, Nat.div_eq_of_lt hlt]
  omega
theorem clr_next (n : Nat) {b i : Nat} (h : b ≤ i) (hi : i < 128) : clr n b i - bitA (clr n b i) i * 2 ^ (127 - i) = clr n b (i + 1) := by
  rw [clr_bit n h hi, clr, mod_bit n hi, clr, show 128 - (i + 1) = 127 - i by omega]
  generalize bitA n i * 2 ^ (127 - i) = x
  omega
def validA (v : Bool) (n : Nat) : Bool := v || decide (n % 2 ^ 96 = 0)
def mostA (v : Bool) : Nat := if v then 128 else 32
def isPfx (v : Bool) (n : Nat) (b : Int) : Bool := validA v n && (decide (b ≥ 0) && decide (b ≤ (mostA v : Nat)))

theorem all256 {p : Nat → Bool} (h : (List.range 256).all p = true) (x : Nat) (hx : x < 256) : p x = true := List.all_eq_true.1 h x (List.mem_range.2 hx)
theorem all8 {p : Nat → Nat → Bool} (h : (List.range 256).all (fun x => (List.range 8).all (p x)) = true) (x s : Nat) (hx : x < 256) (hs : s < 8) : p x s = true := List.all_eq_true.1 (all256 h x hx) s (List.mem_range.2 hs)
theorem andn8 {x s : Nat} (hx : x < 256) (hs : s < 8) : bits .andNot .u8 (x : Int) ((2 ^ s : Nat) : Int) = ((x - x / 2 ^ s % 2 * 2 ^ s : Nat) : Int) :=
  of_decide_eq_true (all8 (p := fun x s => decide (bits .andNot .u8 (x : Int) ((2 ^ s : Nat) : Int) = ((x - x / 2 ^ s % 2 * 2 ^ s : Nat) : Int))) (by decide +kernel) x s hx hs)
theorem r_andn {P : Program} {t : TypeId} {k : IntKind} {a b c : Int} (h : bits .andNot k a b = c) (w : World) : (binOp .andNot t (.int k a) (.int k b)).run P w = .ok (.int k c) w := by
  subst h
  simp [binOp, intBits_andNot]
theorem r_clear {P : Program} {t : TypeId} {n i : Nat} (hi : i < 128) (w : World) : (binOp .andNot t (byteV n (15 - i / 8)) (.int .u8 ((2 ^ (7 - i % 8) : Nat) : Int))).run P w = .ok (.int .u8 ((byteOf n (15 - i / 8) - bitA n i * 2 ^ (7 - i % 8) : Nat) : Int)) w := by
  refine r_andn ?_ w
  rw [andn8 (byteOf_lt _ _) (by omega), byte_bit n i hi]
theorem r_shl8 {P : Program} {t : TypeId} (s : Nat) (k : IntKind) (hs : s < 8) (w : World) : (binOp .shl t (.int .u8 1) (.int k s)).run P w = .ok (.int .u8 ((2 ^ s : Nat) : Int)) w := by
  have : s = 0 ∨ s = 1 ∨ s = 2 ∨ s = 3 ∨ s = 4 ∨ s = 5 ∨ s = 6 ∨ s = 7 := by omega
  rcases this with rfl | rfl | rfl | rfl | rfl | rfl | rfl | rfl <;> rfl
theorem r_shrb {P : Program} {t : TypeId} {n m s : Nat} (k : IntKind) (hs : s ≤ 8) (w : World) : (binOp .shr t (byteV n m) (.int k s)).run P w = .ok (.int .u8 ((byteOf n m / 2 ^ s : Nat) : Int)) w := r_shr8 _ s k hs w
theorem and1 (a : Nat) (ha : a < 256) : bits .and .i64 (a : Int) 1 = ((a % 2 : Nat) : Int) :=
  of_decide_eq_true (all256 (p := fun x => decide (bits .and .i64 (x : Int) 1 = ((x % 2 : Nat) : Int))) (by decide +kernel) a ha)
theorem r_bit {P : Program} {t : TypeId} {n i : Nat} (hi : i < 128) (w : World) : (binOp .and t (.int .i64 ((byteOf n (15 - i / 8) / 2 ^ (7 - i % 8) : Nat) : Int)) (.int .i64 1)).run P w = .ok (.int .i64 ((bitA n i : Nat) : Int)) w := by
  refine r_and ?_ w
  have := byteOf_lt n (15 - i / 8)
  rw [and1 _ (Nat.lt_of_le_of_lt (Nat.div_le_self _ _) this), byte_bit n i hi]
/-- the last twelve bytes -/
theorem low96 {n : Nat} : ((List.range 12).all fun i => byteOf n (11 - i) == 0) = decide (n % 2 ^ 96 = 0) := by
  rw [Bool.eq_iff_iff]
  simp only [List.all_eq_true, List.mem_range, beq_iff_eq, decide_eq_true_eq]
  have e := ofB_self n 12
  rw [show (256 : Nat) ^ 12 = 2 ^ 96 from rfl] at e
  constructor
  · intro h
    rw [← e, ofB_congr (g := fun _ => 0) 12 (fun i hi => by have := h (11 - i) (by omega); rwa [show 11 - (11 - i) = i by omega] at this)]
    rfl
  · intro h i hi
    have h1 := ofB_byte (byteOf n) 12 (fun i _ => byteOf_lt n i) (11 - i) (by omega)
    rw [e, h] at h1
    rw [← h1, byteOf, Nat.zero_div]
end Go.Proofs.Ytnppgaohfegloaa
