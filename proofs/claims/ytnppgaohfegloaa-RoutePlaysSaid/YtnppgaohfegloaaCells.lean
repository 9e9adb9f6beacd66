/-
  Addresses, prefixes, nodes and tables as rows of cells: an address of 16 bytes is a number, the first byte the highest.
-/
import Derived.Test.YtnppgaohfegloaaKit
namespace Go.Proofs.Ytnppgaohfegloaa
open Go.RowKit

def byteOf (n i : Nat) : Nat := n / 256 ^ i % 256
theorem byteOf_lt (n i : Nat) : byteOf n i < 256 := Nat.mod_lt _ (by decide)
def byteV (n i : Nat) : Value := .int .u8 (byteOf n i)
/-- The number of bytes. -/
def ofB (f : Nat → Nat) : Nat → Nat
  | 0 => 0
  | k + 1 => ofB f k + f k * 256 ^ k

theorem ofB_lt (f : Nat → Nat) (k : Nat) (h : ∀ i, i < k → f i < 256) : ofB f k < 256 ^ k := by
  induction k with
  | zero => simp [ofB]
  | succ k ih =>
    have h1 := ih (fun i hi => h i (by omega))
    have h2 : f k * 256 ^ k ≤ 255 * 256 ^ k := Nat.mul_le_mul_right _ (by have := h k (by omega); omega)
    simp only [ofB, Nat.pow_succ]
    omega

theorem ofB_byte (f : Nat → Nat) (k : Nat) (h : ∀ i, i < k → f i < 256) (i : Nat) (hi : i < k) : byteOf (ofB f k) i = f i := by
  induction k with
  | zero => omega
  | succ k ih =>
    have hlt := ofB_lt f k (fun i hi => h i (by omega))
    have hpos : 0 < 256 ^ k := Nat.pow_pos (by decide)
    unfold byteOf ofB
    by_cases hik : i = k
    · subst hik
      rw [Nat.add_mul_div_right _ _ hpos, Nat.div_eq_of_lt hlt, Nat.zero_add]
      exact Nat.mod_eq_of_lt (h i hi)
    · have hik' : i < k := by omega
      have := ih (fun i hi => h i (by omega)) hik'
      unfold byteOf at this
      rw [show f k * 256 ^ k = (f k * 256 ^ (k - i - 1) * 256) * 256 ^ i by
        rw [Nat.mul_assoc, Nat.mul_assoc]; congr 1
        rw [← Nat.pow_succ', ← Nat.pow_add]; congr 1; omega,
        Nat.add_mul_div_right _ _ (Nat.pow_pos (by decide)), Nat.add_mul_mod_self_right]
      exact this

theorem ofB_congr {f g : Nat → Nat} (k : Nat) (h : ∀ i, i < k → f i = g i) : ofB f k = ofB g k := by
  induction k with
  | zero => rfl
  | succ k ih => simp only [ofB, ih (fun i hi => h i (by omega)), h k (by omega)]

theorem ofB_self (n k : Nat) : ofB (byteOf n) k = n % 256 ^ k := by
  induction k with
  | zero => simp [ofB, Nat.mod_one]
  | succ k ih =>
    simp only [ofB, ih, byteOf, Nat.pow_succ]
    rw [Nat.mod_mul, Nat.mul_comm (n / 256 ^ k % 256)]

theorem byte_ext {n m : Nat} (hn : n < 2 ^ 128) (hm : m < 2 ^ 128) (h : ∀ i, i < 16 → byteOf n i = byteOf m i) : n = m := by
  have e := ofB_congr (f := byteOf n) (g := byteOf m) 16 h
  rw [ofB_self, ofB_self] at e
  have h128 : (256 : Nat) ^ 16 = 2 ^ 128 := by decide
  rw [h128, Nat.mod_eq_of_lt hn, Nat.mod_eq_of_lt hm] at e
  exact e
/-- the byte j, counted from the highest, put anew -/
def setB (n j b : Nat) : Nat := ofB (fun i => if i = 15 - j then b else byteOf n i) 16
theorem setB_lt (n j b : Nat) (hb : b < 256) : setB n j b < 2 ^ 128 := by
  have := ofB_lt (fun i => if i = 15 - j then b else byteOf n i) 16 (fun i _ => by split; exact hb; exact byteOf_lt _ _)
  simpa [setB] using this
theorem byteOf_setB (n j b i : Nat) (hb : b < 256) (hi : i < 16) : byteOf (setB n j b) i = if i = 15 - j then b else byteOf n i :=
  ofB_byte _ 16 (fun i _ => by split; exact hb; exact byteOf_lt _ _) i hi

def b16 (n : Nat) : Array Value := #[byteV n 15, byteV n 14, byteV n 13, byteV n 12, byteV n 11, byteV n 10, byteV n 9, byteV n 8, byteV n 7, byteV n 6, byteV n 5, byteV n 4, byteV n 3, byteV n 2, byteV n 1, byteV n 0]
def adc (v : Bool) (n : Nat) : Array Value := #[.bool v, byteV n 15, byteV n 14, byteV n 13, byteV n 12, byteV n 11, byteV n 10, byteV n 9, byteV n 8, byteV n 7, byteV n 6, byteV n 5, byteV n 4, byteV n 3, byteV n 2, byteV n 1, byteV n 0]
def pfc (v : Bool) (n : Nat) (b : Int) : Array Value := #[.bool v, byteV n 15, byteV n 14, byteV n 13, byteV n 12, byteV n 11, byteV n 10, byteV n 9, byteV n 8, byteV n 7, byteV n 6, byteV n 5, byteV n 4, byteV n 3, byteV n 2, byteV n 1, byteV n 0, .int .i64 b]
def ndc (l r : Value) (own : Option Int) (v : Bool) (n : Nat) (b : Int) : Array Value := #[l, r, .bool own.isSome, .int .i64 (own.getD 0), .bool v, byteV n 15, byteV n 14, byteV n 13, byteV n 12, byteV n 11, byteV n 10, byteV n 9, byteV n 8, byteV n 7, byteV n 6, byteV n 5, byteV n 4, byteV n 3, byteV n 2, byteV n 1, byteV n 0, .int .i64 b]
def opc (k o : Int) (v : Bool) (n : Nat) (b : Int) : Array Value := #[.int .i64 k, .int .i64 o, .bool v, byteV n 15, byteV n 14, byteV n 13, byteV n 12, byteV n 11, byteV n 10, byteV n 9, byteV n 8, byteV n 7, byteV n 6, byteV n 5, byteV n 4, byteV n 3, byteV n 2, byteV n 1, byteV n 0, .int .i64 b]
def tbc (l r : Value) (c : Int) : Array Value := #[l, r, .int .i64 c]
theorem size_adc (v : Bool) (n : Nat) : (adc v n).size = 17 := rfl
theorem size_b16 (n : Nat) : (b16 n).size = 16 := rfl
theorem size_pfc (v : Bool) (n : Nat) (b : Int) : (pfc v n b).size = 18 := rfl
theorem size_opc (k o : Int) (v : Bool) (n : Nat) (b : Int) : (opc k o v n b).size = 20 := rfl
theorem size_ndc (l r : Value) (own : Option Int) (v : Bool) (n : Nat) (b : Int) : (ndc l r own v n b).size = 22 := rfl
theorem one_adc (v : Bool) (n : Nat) : (adc v n).all (·.oneCell') = true := by simp [adc, byteV, Value.oneCell']
theorem one_pfc (v : Bool) (n : Nat) (b : Int) : (pfc v n b).all (·.oneCell') = true := by simp [pfc, byteV, Value.oneCell']
theorem one_opc (k o : Int) (v : Bool) (n : Nat) (b : Int) : (opc k o v n b).all (·.oneCell') = true := by simp [opc, byteV, Value.oneCell']
theorem adc_get (v : Bool) (n : Nat) : ∀ j, j < 16 → (adc v n)[1 + j]? = some (byteV n (15 - j))
  | 0, _ => rfl
  | 1, _ => rfl
  | 2, _ => rfl
  | 3, _ => rfl
  | 4, _ => rfl
  | 5, _ => rfl
  | 6, _ => rfl
  | 7, _ => rfl
  | 8, _ => rfl
  | 9, _ => rfl
  | 10, _ => rfl
  | 11, _ => rfl
  | 12, _ => rfl
  | 13, _ => rfl
  | 14, _ => rfl
  | 15, _ => rfl
  | _ + 16, h => absurd h (by omega)
theorem pfc_get (v : Bool) (n : Nat) (b : Int) : ∀ j, j < 16 → (pfc v n b)[1 + j]? = some (byteV n (15 - j))
  | 0, _ => rfl
  | 1, _ => rfl
  | 2, _ => rfl
  | 3, _ => rfl
  | 4, _ => rfl
  | 5, _ => rfl
  | 6, _ => rfl
  | 7, _ => rfl
  | 8, _ => rfl
  | 9, _ => rfl
  | 10, _ => rfl
  | 11, _ => rfl
  | 12, _ => rfl
  | 13, _ => rfl
  | 14, _ => rfl
  | 15, _ => rfl
  | _ + 16, h => absurd h (by omega)
theorem pfc_adc (v : Bool) (n : Nat) (b : Int) : ∀ k, k < 17 → (pfc v n b)[0 + k]? = (adc v n)[k]?
  | 0, _ => rfl
  | 1, _ => rfl
  | 2, _ => rfl
  | 3, _ => rfl
  | 4, _ => rfl
  | 5, _ => rfl
  | 6, _ => rfl
  | 7, _ => rfl
  | 8, _ => rfl
  | 9, _ => rfl
  | 10, _ => rfl
  | 11, _ => rfl
  | 12, _ => rfl
  | 13, _ => rfl
  | 14, _ => rfl
  | 15, _ => rfl
  | 16, _ => rfl
  | _ + 17, h => absurd h (by omega)
theorem pfc_b16 (v : Bool) (n : Nat) (b : Int) : ∀ k, k < 16 → (pfc v n b)[1 + k]? = (b16 n)[k]?
  | 0, _ => rfl
  | 1, _ => rfl
  | 2, _ => rfl
  | 3, _ => rfl
  | 4, _ => rfl
  | 5, _ => rfl
  | 6, _ => rfl
  | 7, _ => rfl
  | 8, _ => rfl
  | 9, _ => rfl
  | 10, _ => rfl
  | 11, _ => rfl
  | 12, _ => rfl
  | 13, _ => rfl
  | 14, _ => rfl
  | 15, _ => rfl
  | _ + 16, h => absurd h (by omega)
theorem adc_b16 (v : Bool) (n : Nat) : ∀ k, k < 16 → (adc v n)[1 + k]? = (b16 n)[k]?
  | 0, _ => rfl
  | 1, _ => rfl
  | 2, _ => rfl
  | 3, _ => rfl
  | 4, _ => rfl
  | 5, _ => rfl
  | 6, _ => rfl
  | 7, _ => rfl
  | 8, _ => rfl
  | 9, _ => rfl
  | 10, _ => rfl
  | 11, _ => rfl
  | 12, _ => rfl
  | 13, _ => rfl
  | 14, _ => rfl
  | 15, _ => rfl
  | _ + 16, h => absurd h (by omega)
theorem ndc_adc (l r : Value) (own : Option Int) (v : Bool) (n : Nat) (b : Int) : ∀ k, k < 17 → (ndc l r own v n b)[4 + k]? = (adc v n)[k]?
  | 0, _ => rfl
  | 1, _ => rfl
  | 2, _ => rfl
  | 3, _ => rfl
  | 4, _ => rfl
  | 5, _ => rfl
  | 6, _ => rfl
  | 7, _ => rfl
  | 8, _ => rfl
  | 9, _ => rfl
  | 10, _ => rfl
  | 11, _ => rfl
  | 12, _ => rfl
  | 13, _ => rfl
  | 14, _ => rfl
  | 15, _ => rfl
  | 16, _ => rfl
  | _ + 17, h => absurd h (by omega)
theorem opc_pfc (k o : Int) (v : Bool) (n : Nat) (b : Int) : ∀ j, j < 18 → (opc k o v n b)[2 + j]? = (pfc v n b)[j]?
  | 0, _ => rfl
  | 1, _ => rfl
  | 2, _ => rfl
  | 3, _ => rfl
  | 4, _ => rfl
  | 5, _ => rfl
  | 6, _ => rfl
  | 7, _ => rfl
  | 8, _ => rfl
  | 9, _ => rfl
  | 10, _ => rfl
  | 11, _ => rfl
  | 12, _ => rfl
  | 13, _ => rfl
  | 14, _ => rfl
  | 15, _ => rfl
  | 16, _ => rfl
  | 17, _ => rfl
  | _ + 18, h => absurd h (by omega)
theorem byteV_setB (n j b i : Nat) (hb : b < 256) (hi : i < 16) : byteV (setB n j b) i = if i = 15 - j then .int .u8 b else byteV n i := by
  rw [byteV, byteOf_setB n j b i hb hi]
  split <;> rfl
theorem adc_set (v : Bool) (n b : Nat) (hb : b < 256) : ∀ j, j < 16 → (adc v n).setIfInBounds (1 + j) (.int .u8 b) = adc v (setB n j b)
  | 0, _ => by simp [adc, byteV_setB n _ b _ hb]
  | 1, _ => by simp [adc, byteV_setB n _ b _ hb]
  | 2, _ => by simp [adc, byteV_setB n _ b _ hb]
  | 3, _ => by simp [adc, byteV_setB n _ b _ hb]
  | 4, _ => by simp [adc, byteV_setB n _ b _ hb]
  | 5, _ => by simp [adc, byteV_setB n _ b _ hb]
  | 6, _ => by simp [adc, byteV_setB n _ b _ hb]
  | 7, _ => by simp [adc, byteV_setB n _ b _ hb]
  | 8, _ => by simp [adc, byteV_setB n _ b _ hb]
  | 9, _ => by simp [adc, byteV_setB n _ b _ hb]
  | 10, _ => by simp [adc, byteV_setB n _ b _ hb]
  | 11, _ => by simp [adc, byteV_setB n _ b _ hb]
  | 12, _ => by simp [adc, byteV_setB n _ b _ hb]
  | 13, _ => by simp [adc, byteV_setB n _ b _ hb]
  | 14, _ => by simp [adc, byteV_setB n _ b _ hb]
  | 15, _ => by simp [adc, byteV_setB n _ b _ hb]
  | _ + 16, h => absurd h (by omega)
theorem pfc_set (v : Bool) (n b : Nat) (c : Int) (hb : b < 256) : ∀ j, j < 16 → (pfc v n c).setIfInBounds (1 + j) (.int .u8 b) = pfc v (setB n j b) c
  | 0, _ => by simp [pfc, byteV_setB n _ b _ hb]
  | 1, _ => by simp [pfc, byteV_setB n _ b _ hb]
  | 2, _ => by simp [pfc, byteV_setB n _ b _ hb]
  | 3, _ => by simp [pfc, byteV_setB n _ b _ hb]
  | 4, _ => by simp [pfc, byteV_setB n _ b _ hb]
  | 5, _ => by simp [pfc, byteV_setB n _ b _ hb]
  | 6, _ => by simp [pfc, byteV_setB n _ b _ hb]
  | 7, _ => by simp [pfc, byteV_setB n _ b _ hb]
  | 8, _ => by simp [pfc, byteV_setB n _ b _ hb]
  | 9, _ => by simp [pfc, byteV_setB n _ b _ hb]
  | 10, _ => by simp [pfc, byteV_setB n _ b _ hb]
  | 11, _ => by simp [pfc, byteV_setB n _ b _ hb]
  | 12, _ => by simp [pfc, byteV_setB n _ b _ hb]
  | 13, _ => by simp [pfc, byteV_setB n _ b _ hb]
  | 14, _ => by simp [pfc, byteV_setB n _ b _ hb]
  | 15, _ => by simp [pfc, byteV_setB n _ b _ hb]
  | _ + 16, h => absurd h (by omega)
theorem agg31 : tAgg Try.prog 31 = true := by kernel_rfl
theorem agg24 : tAgg Try.prog 24 = true := by kernel_rfl
theorem agg60 : tAgg Try.prog 60 = true := by kernel_rfl
theorem agg64 : tAgg Try.prog 64 = true := by kernel_rfl
theorem agg58 : tAgg Try.prog 58 = true := by kernel_rfl
theorem agg22 : tAgg Try.prog 22 = true := by kernel_rfl
theorem agg79 : tAgg Try.prog 79 = true := by kernel_rfl
theorem agg40 : tAgg Try.prog 40 = true := by kernel_rfl
theorem sz31 : tSize Try.prog 31 = some 18 := by kernel_rfl
theorem sz24 : tSize Try.prog 24 = some 17 := by kernel_rfl
theorem sz60 : tSize Try.prog 60 = some 3 := by kernel_rfl
theorem sz64 : tSize Try.prog 64 = some 22 := by kernel_rfl
theorem sz58 : tSize Try.prog 58 = some 2 := by kernel_rfl
theorem sz22 : tSize Try.prog 22 = some 16 := by kernel_rfl
theorem sz79 : tSize Try.prog 79 = some 12 := by kernel_rfl
theorem sz40 : tSize Try.prog 40 = some 20 := by kernel_rfl
theorem sz3 : tSize Try.prog 3 = some 1 := by kernel_rfl
theorem sz4 : tSize Try.prog 4 = some 1 := by kernel_rfl
theorem sz5 : tSize Try.prog 5 = some 1 := by kernel_rfl
theorem sz57 : tSize Try.prog 57 = some 1 := by kernel_rfl
theorem one3 : tOne Try.prog 3 = true := by kernel_rfl
theorem one4 : tOne Try.prog 4 = true := by kernel_rfl
theorem one5 : tOne Try.prog 5 = true := by kernel_rfl
theorem one57 : tOne Try.prog 57 = true := by kernel_rfl
theorem fo31_0 : fOff Try.prog 31 0 = some 0 := by kernel_rfl
theorem fo31_1 : fOff Try.prog 31 1 = some 17 := by kernel_rfl
theorem fo24_0 : fOff Try.prog 24 0 = some 0 := by kernel_rfl
theorem fo24_1 : fOff Try.prog 24 1 = some 1 := by kernel_rfl
theorem fo60_0 : fOff Try.prog 60 0 = some 0 := by kernel_rfl
theorem fo60_1 : fOff Try.prog 60 1 = some 2 := by kernel_rfl
theorem fo64_0 : fOff Try.prog 64 0 = some 0 := by kernel_rfl
theorem fo64_1 : fOff Try.prog 64 1 = some 2 := by kernel_rfl
theorem fo64_2 : fOff Try.prog 64 2 = some 3 := by kernel_rfl
theorem fo64_3 : fOff Try.prog 64 3 = some 4 := by kernel_rfl
theorem fo64_4 : fOff Try.prog 64 4 = some 21 := by kernel_rfl
theorem fo40_0 : fOff Try.prog 40 0 = some 0 := by kernel_rfl
theorem fo40_1 : fOff Try.prog 40 1 = some 1 := by kernel_rfl
theorem fo40_2 : fOff Try.prog 40 2 = some 2 := by kernel_rfl
theorem u22 : Try.prog.underlying 22 = some (.array 16 5) := Try.underlying22
theorem u79 : Try.prog.underlying 79 = some (.array 12 5) := Try.underlying79
theorem u58 : Try.prog.underlying 58 = some (.array 2 57) := Try.underlying58
theorem u36 : Try.prog.underlying 36 = some (.slice 40) := Try.underlying36
theorem u37 : Try.prog.underlying 37 = some (.slice 24) := Try.underlying37
theorem zero31 : tZero Try.prog 31 = some (.agg (pfc false 0 0)) := by kernel_rfl
theorem zero24 : tZero Try.prog 24 = some (.agg (adc false 0)) := by kernel_rfl
theorem fn3 : goFn Try.prog 3 = true := by kernel_rfl
theorem fn4 : goFn Try.prog 4 = true := by kernel_rfl
theorem fn5 : goFn Try.prog 5 = true := by kernel_rfl
theorem fn6 : goFn Try.prog 6 = true := by kernel_rfl
theorem fn7 : goFn Try.prog 7 = true := by kernel_rfl
theorem fn8 : goFn Try.prog 8 = true := by kernel_rfl
theorem fn9 : goFn Try.prog 9 = true := by kernel_rfl
theorem fn10 : goFn Try.prog 10 = true := by kernel_rfl
theorem fn11 : goFn Try.prog 11 = true := by kernel_rfl
theorem fn12 : goFn Try.prog 12 = true := by kernel_rfl
theorem fn13 : goFn Try.prog 13 = true := by kernel_rfl
theorem fn14 : goFn Try.prog 14 = true := by kernel_rfl
theorem fn15 : goFn Try.prog 15 = true := by kernel_rfl
theorem fn16 : goFn Try.prog 16 = true := by kernel_rfl
theorem fn17 : goFn Try.prog 17 = true := by kernel_rfl
theorem fn18 : goFn Try.prog 18 = true := by kernel_rfl
theorem fn19 : goFn Try.prog 19 = true := by kernel_rfl
theorem fn20 : goFn Try.prog 20 = true := by kernel_rfl
theorem fn21 : goFn Try.prog 21 = true := by kernel_rfl
theorem fn22 : goFn Try.prog 22 = true := by kernel_rfl
theorem fn23 : goFn Try.prog 23 = true := by kernel_rfl
theorem fn24 : goFn Try.prog 24 = true := by kernel_rfl
theorem fn25 : goFn Try.prog 25 = true := by kernel_rfl
theorem fn26 : goFn Try.prog 26 = true := by kernel_rfl
theorem fn27 : goFn Try.prog 27 = true := by kernel_rfl
theorem fn28 : goFn Try.prog 28 = true := by kernel_rfl
theorem fn29 : goFn Try.prog 29 = true := by kernel_rfl
theorem fn30 : goFn Try.prog 30 = true := by kernel_rfl
theorem fn31 : goFn Try.prog 31 = true := by kernel_rfl
theorem fn32 : goFn Try.prog 32 = true := by kernel_rfl
theorem fn33 : goFn Try.prog 33 = true := by kernel_rfl
theorem fn34 : goFn Try.prog 34 = true := by kernel_rfl

section
variable {F : Fr} {ops : Array Oper} {S : St} {o : Oper}
theorem ok_not (hw : want ops S o = some true) {t : TypeId} {x : Operand} (ho : o.op = .unOp .not t x) {b c : Bool} (hx : S.av x = some (.v (.bool b))) (hc : (!b) = c) : OpOK Try.prog F ops o S { val := .v (.bool c) } :=
  ok_value hw fun ρ a w h1 _ _ => by
    subst hc
    have e1 := h1 x (by simp [ho, Op.operands]) _ hx
    simp [execOp, ho, e1, Op.unary]
theorem o_box31 (i : Nat) (hw : want ops S o = some true) {x : Operand} (ho : o.op = .box 31 x) {v : Bool} {n : Nat} {b : Int} (hx : S.av x = some (.v (.agg (pfc v n b)))) : OpOK Try.prog F ops o S { val := .p i 0, new := some (i, .mk (pfc v n b) 31) } := ok_box i hw ho hx rfl
theorem o_box24 (i : Nat) (hw : want ops S o = some true) {x : Operand} (ho : o.op = .box 24 x) {v : Bool} {n : Nat} (hx : S.av x = some (.v (.agg (adc v n)))) : OpOK Try.prog F ops o S { val := .p i 0, new := some (i, .mk (adc v n) 24) } := ok_box i hw ho hx rfl
theorem o_alloc31 (i : Nat) (hw : want ops S o = some true) (ho : o.op = .alloc 31) : OpOK Try.prog F ops o S { val := .p i 0, new := some (i, .mk (pfc false 0 0) 31) } := ok_alloc i hw ho zero31 rfl
theorem o_alloc24 (i : Nat) (hw : want ops S o = some true) (ho : o.op = .alloc 24) : OpOK Try.prog F ops o S { val := .p i 0, new := some (i, .mk (adc false 0) 24) } := ok_alloc i hw ho zero24 rfl
theorem o_load31 (hw : want ops S o = some true) {x : Operand} (ho : o.op = .load 31 x) {i ty : Nat} {v : Bool} {n : Nat} {b : Int} (hx : S.av x = some (.p i 0)) (hb : S.blk i = some (.mk (pfc v n b) ty)) :
    OpOK Try.prog F ops o S { val := .v (.agg (pfc v n b)), rd := [i] } := ok_load_whole hw ho hx hb agg31 sz31 rfl
theorem o_load24 (hw : want ops S o = some true) {x : Operand} (ho : o.op = .load 24 x) {i ty : Nat} {v : Bool} {n : Nat} (hx : S.av x = some (.p i 0)) (hb : S.blk i = some (.mk (adc v n) ty)) :
    OpOK Try.prog F ops o S { val := .v (.agg (adc v n)), rd := [i] } := ok_load_whole hw ho hx hb agg24 sz24 rfl
theorem o_load24p (hw : want ops S o = some true) {x : Operand} (ho : o.op = .load 24 x) {i ty : Nat} {v : Bool} {n : Nat} {b : Int} (hx : S.av x = some (.p i 0)) (hb : S.blk i = some (.mk (pfc v n b) ty)) :
    OpOK Try.prog F ops o S { val := .v (.agg (adc v n)), rd := [i] } := ok_load_part hw ho hx hb agg24 sz24 rfl (pfc_adc v n b)
theorem o_load22 (hw : want ops S o = some true) {x : Operand} (ho : o.op = .load 22 x) {i ty : Nat} {v : Bool} {n : Nat} (hx : S.av x = some (.p i 1)) (hb : S.blk i = some (.mk (adc v n) ty)) :
    OpOK Try.prog F ops o S { val := .v (.agg (b16 n)), rd := [i] } := ok_load_part hw ho hx hb agg22 sz22 rfl (adc_b16 v n)
theorem o_store31 (hw : want ops S o = some true) {x y : Operand} (ho : o.op = .store 31 x y) {i ty : Nat} {v v' : Bool} {n n' : Nat} {b b' : Int} (hx : S.av x = some (.p i 0)) (hy : S.av y = some (.v (.agg (pfc v n b)))) (hb : S.blk i = some (.mk (pfc v' n' b') ty)) :
    OpOK Try.prog F ops o S { val := .v undef, wr := some (i, .mk (pfc v n b) ty), rd := [i] } := ok_store_whole hw ho hx hy hb sz31 rfl (one_pfc v n b) rfl
theorem o_store24 (hw : want ops S o = some true) {x y : Operand} (ho : o.op = .store 24 x y) {i ty : Nat} {v v' : Bool} {n n' : Nat} (hx : S.av x = some (.p i 0)) (hy : S.av y = some (.v (.agg (adc v n)))) (hb : S.blk i = some (.mk (adc v' n') ty)) :
    OpOK Try.prog F ops o S { val := .v undef, wr := some (i, .mk (adc v n) ty), rd := [i] } := ok_store_whole hw ho hx hy hb sz24 rfl (one_adc v n) rfl
/-- one byte -/
theorem o_at22 (hw : want ops S o = some true) {x ix : Operand} (ho : o.op = .indexAddr 22 x ix) {i off : Nat} {k : IntKind} {j : Nat} (hx : S.av x = some (.p i off)) (hi : S.av ix = some (.v (.int k j))) (h1 : off = 1) (hj : j < 16) :
    OpOK Try.prog F ops o S { val := .p i (1 + j) } := by
  subst h1
  have := ok_index_arr (F := F) hw ho hx hi u22 sz5 hj
  rwa [Nat.mul_one] at this
theorem o_load5a (hw : want ops S o = some true) {x : Operand} (ho : o.op = .load 5 x) {i j ty : Nat} {v : Bool} {n : Nat} (hx : S.av x = some (.p i (1 + j))) (hb : S.blk i = some (.mk (adc v n) ty)) (hj : j < 16) :
    OpOK Try.prog F ops o S { val := .v (byteV n (15 - j)), rd := [i] } := ok_load_cell hw ho hx hb one5 (adc_get v n j hj)
theorem o_load5p (hw : want ops S o = some true) {x : Operand} (ho : o.op = .load 5 x) {i j ty : Nat} {v : Bool} {n : Nat} {b : Int} (hx : S.av x = some (.p i (1 + j))) (hb : S.blk i = some (.mk (pfc v n b) ty)) (hj : j < 16) :
    OpOK Try.prog F ops o S { val := .v (byteV n (15 - j)), rd := [i] } := ok_load_cell hw ho hx hb one5 (pfc_get v n b j hj)
theorem o_store5a (hw : want ops S o = some true) {x y : Operand} (ho : o.op = .store 5 x y) {i j ty c : Nat} {v : Bool} {n : Nat} (hx : S.av x = some (.p i (1 + j))) (hy : S.av y = some (.v (.int .u8 c))) (hb : S.blk i = some (.mk (adc v n) ty)) (hj : j < 16) (hc : c < 256) :
    OpOK Try.prog F ops o S { val := .v undef, wr := some (i, .mk (adc v (setB n j c)) ty), rd := [i] } := ok_store_cell hw ho hx hy hb sz5 rfl (by rw [size_adc]; omega) (adc_set v n c hc j hj)
theorem o_store5p (hw : want ops S o = some true) {x y : Operand} (ho : o.op = .store 5 x y) {i j ty c : Nat} {v : Bool} {n : Nat} {b : Int} (hx : S.av x = some (.p i (1 + j))) (hy : S.av y = some (.v (.int .u8 c))) (hb : S.blk i = some (.mk (pfc v n b) ty)) (hj : j < 16) (hc : c < 256) :
    OpOK Try.prog F ops o S { val := .v undef, wr := some (i, .mk (pfc v (setB n j c) b) ty), rd := [i] } := ok_store_cell hw ho hx hy hb sz5 rfl (by rw [size_pfc]; omega) (pfc_set v n c b hc j hj)
end
end Go.Proofs.Ytnppgaohfegloaa
