/-
  The ladder, as numbers. No program in sight.
-/
import Derived.Test.YtnbdeajjfhlmnaaAwake
namespace Go.Proofs.Ytnbdeajjfhlmnaa
open Go.RowKit

theorem all256 {p : Nat → Bool} (h : (List.range 256).all p = true) (x : Nat) (hx : x < 256) : p x = true := List.all_eq_true.1 h x (List.mem_range.2 hx)
theorem and248 {x : Nat} (hx : x < 256) : bits .and .u8 (x : Int) 248 = ((x / 8 * 8 : Nat) : Int) := by
  have := u8_and_nat x 248 hx (by decide)
  rw [show x &&& 248 = x / 8 * 8 from of_decide_eq_true (all256 (p := fun x => decide (x &&& 248 = x / 8 * 8)) (by decide +kernel) x hx)] at this
  exact this
theorem and127 {x : Nat} (hx : x < 256) : bits .and .u8 (x : Int) 127 = ((x % 128 : Nat) : Int) := by
  have := u8_and_nat x 127 hx (by decide)
  rw [show x &&& 127 = x % 128 from of_decide_eq_true (all256 (p := fun x => decide (x &&& 127 = x % 128)) (by decide +kernel) x hx)] at this
  exact this
theorem or64 {x : Nat} (hx : x < 256) : bits .or .u8 ((x % 128 : Nat) : Int) 64 = ((x % 64 + 64 : Nat) : Int) := by
  have := u8_or_nat (x % 128) 64 (by omega) (by decide)
  rw [show x % 128 ||| 64 = x % 64 + 64 from of_decide_eq_true (all256 (p := fun x => decide (x % 128 ||| 64 = x % 64 + 64)) (by decide +kernel) x hx)] at this
  exact this

def clampP (n : Nat) : Nat := setByte (setByte n 0 (byteOf n 0 / 8 * 8)) 31 (byteOf n 31 % 64 + 64)
theorem clamp_b0 (n : Nat) : byteOf n 0 / 8 * 8 < 256 := by have := byteOf_lt n 0; omega
theorem clamp_b31 (n : Nat) : byteOf n 31 % 64 + 64 < 256 := by omega
theorem clampP_lt (n : Nat) : clampP n < 2 ^ 256 := setByte_lt _ _ _ (clamp_b31 n)
theorem byte31_0 (n b : Nat) (hb : b < 256) : byteOf (setByte n 0 b) 31 = byteOf n 31 := by rw [byteOf_setByte _ _ _ _ hb (by decide), if_neg (by decide)]
def maskP (n : Nat) : Nat := setByte n 31 (byteOf n 31 % 128)
theorem mask_b (n : Nat) : byteOf n 31 % 128 < 256 := by omega
theorem maskP_lt (n : Nat) : maskP n < 2 ^ 256 := setByte_lt _ _ _ (mask_b n)

structure Q4 where
  x2 : Nat
  z2 : Nat
  x3 : Nat
  z3 : Nat
structure Ok4 (q : Q4) : Prop where
  h0 : q.x2 < 2 ^ 256
  h1 : q.z2 < 2 ^ 256
  h2 : q.x3 < 2 ^ 256
  h3 : q.z3 < 2 ^ 256
def swap4 (q : Q4) : Q4 := ⟨q.x3, q.z3, q.x2, q.z2⟩
def turn (b : Nat) (q : Q4) : Q4 := if b = 1 then swap4 q else q
theorem turn_turn (b : Nat) (q : Q4) : turn b (turn b q) = q := by
  unfold turn
  split <;> rfl
theorem turn_swap {b s : Nat} (hb : b < 2) (hs : s < 2) (h : b ≠ s) (q : Q4) : swap4 (turn s q) = turn b q := by
  have : (b = 0 ∧ s = 1) ∨ (b = 1 ∧ s = 0) := by omega
  rcases this with ⟨rfl, rfl⟩ | ⟨rfl, rfl⟩ <;> rfl
theorem Ok4.swap {q : Q4} (h : Ok4 q) : Ok4 (swap4 q) := ⟨h.h2, h.h3, h.h0, h.h1⟩
theorem Ok4.turn {q : Q4} (h : Ok4 q) (b : Nat) : Ok4 (turn b q) := by
  unfold Ytnbdeajjfhlmnaa.turn
  split
  · exact h.swap
  · exact h
/-- one step, by the formulas of the document -/
def stepP (u : Nat) (q : Q4) : Q4 :=
  let a := (q.x2 + q.z2) % pp
  let b := subP q.x2 q.z2
  let da := subP q.x3 q.z3 * a % pp
  let cb := (q.x3 + q.z3) % pp * b % pp
  let aa := a * a % pp
  let bb := b * b % pp
  let e := subP aa bb
  ⟨aa * bb % pp, e * ((aa + 121665 * e % pp) % pp) % pp, (da + cb) % pp * ((da + cb) % pp) % pp, u * subP da cb * subP da cb % pp⟩
theorem stepP_ok (u : Nat) (q : Q4) : Ok4 (stepP u q) := ⟨pp_lt _, pp_lt _, pp_lt _, pp_lt _⟩
/-- the ladder after j steps, never turned -/
def lad (k u : Nat) : Nat → Q4
  | 0 => ⟨1, 0, u % pp, 1⟩
  | j + 1 => turn (bitN k (254 - j)) (stepP u (turn (bitN k (254 - j)) (lad k u j)))
theorem lad_ok (k u j : Nat) : Ok4 (lad k u j) := by
  cases j with
  | zero => exact ⟨by simp only [lad]; decide, by simp only [lad]; decide, pp_lt _, by simp only [lad]; decide⟩
  | succ j => exact (stepP_ok u _).turn _
def swN (k : Nat) : Nat → Nat
  | 0 => 0
  | j + 1 => bitN k (254 - j)
theorem bitN_lt (k j : Nat) : bitN k j < 2 := Nat.mod_lt _ (by decide)
theorem swN_lt (k j : Nat) : swN k j < 2 := by
  cases j with
  | zero => exact Nat.zero_lt_succ _
  | succ j => exact bitN_lt _ _
def cur (k u j : Nat) : Q4 := turn (swN k j) (lad k u j)
theorem cur_ok (k u j : Nat) : Ok4 (cur k u j) := (lad_ok k u j).turn _
theorem cur_next (k u j : Nat) : cur k u (j + 1) = stepP u (turn (bitN k (254 - j)) (lad k u j)) := by
  rw [cur, lad, swN, turn_turn]
/-- the product of a scalar and a coordinate, both as they are used -/
def endP (k u : Nat) : Nat := (lad k u 255).x2 * powP (lad k u 255).z2 (pp - 2) % pp
def timesP (k u : Nat) : Nat := endP (clampP k) (maskP u)
theorem timesP_lt (k u : Nat) : timesP k u < 2 ^ 256 := pp_lt _
theorem turn_one (q : Q4) (b : Nat) (h : b = 1) : (turn b q).x3 = q.x2 ∧ (turn b q).z3 = q.z2 := by subst h; exact ⟨rfl, rfl⟩
theorem turn_zero (q : Q4) (b : Nat) (h : ¬ b = 1) : turn b q = q := if_neg h
end Go.Proofs.Ytnbdeajjfhlmnaa
