/-
  More rules for the laws over slices of calls and of addresses.
-/
import Derived.Test.YtnppgaohfegloaaKeys
namespace Go.Proofs.Ytnppgaohfegloaa
open Go.RowKit

theorem wholeR {p : OpR} (h : p.Ok) (w : World) : Calls Try.prog 14 #[.agg (pfc p.v p.n p.b)] w fun e w' => e = .returned (.agg (pfc p.v (topN p.n p.bn) (p.bn : Nat))) ∧ Below w.heap.size w w' := by
  have := whole_ok p.v p.n p.bn h.lt h.pfx' w
  rwa [← h.bn] at this ⊢
def fdA (M : Tab) (v : Bool) (x : Nat) : Option (Nat × Int) := if validA v x then M.find v x else none
theorem acO_map {a b : Option (Nat × Int)} (h : a.map (·.2) = b.map (·.2)) : acO a = acO b ∧ a.isSome = b.isSome := by
  cases a <;> cases b <;> simp_all [acO]
theorem fdA_map {M N : Tab} {v : Bool} {x : Nat} (h : (M.find v x).map (·.2) = (N.find v x).map (·.2)) : (fdA M v x).map (·.2) = (fdA N v x).map (·.2) := by
  unfold fdA
  split
  · exact h
  · rfl
section
variable {P : Program} {Q : Exit → Act → World → Prop} {a : Act} {w : World} {N : Nat} {S : St} {ρ : Pl} {F : Fr}
theorem if_any (h : Rep N S ρ F a w) {t : Tmp} {x y : Code} {b : Bool} (hs : S.slot t = some (.v (.bool b))) (hx : b = true → x.wp P Q a w) (hy : b = false → y.wp P Q a w) : (Code.cond (.tmp t) x y).wp P Q a w := by
  cases b with
  | true => exact if_true' h hs (hx rfl)
  | false => exact if_false' h hs (hy rfl)
end
section
variable {F : Fr} {ops : Array Oper} {S : St} {o : Oper}
theorem o_putR (hw : want ops S o = some true) {args : Array Operand} {ts : Array TypeId} (ho : o.op = .call { callee := .value (.func 10), args := args, argTypes := ts }) {i : Nat} {M : Tab} {p : OpR}
    (ha : args.toList.mapM S.av = some [.p i 0, .v (.agg (pfc p.v p.n p.b)), .v (.int .i64 p.o)]) (hb : S.blk i = some (.ext (tabA M))) (hok : p.Ok) (hc : M.cnt < 64) :
    OpOK Try.prog F ops o S { val := .v (.int .i64 0), wr := some (i, .ext (tabA (M.putR p))), rd := [i] } := by
  rw [hok.bn] at ha
  exact o_put_ok hw ho ha hb hok.lt hok.pfx' (not_full hc)
theorem find_any {t : Nat} {f : Nat → Prop} {M : Tab} (v : Bool) (n : Nat) (hn : n < 2 ^ 128) (w : World) (hA : (tabA M).holds t f (hp w)) :
    Calls Try.prog 11 #[.pointer (some ⟨t, 0, none⟩), .agg (adc v n)] w fun e w' => e = .returned (fdRes v n (fdA M v n)) ∧ Below w.heap.size w w' := by
  unfold fdA
  cases hv : validA v n with
  | true => exact find_yes v n hn hv w hA
  | false => exact find_no v n hv w hA
theorem o_findV (hw : want ops S o = some true) {args : Array Operand} {ts : Array TypeId} (ho : o.op = .call { callee := .value (.func 11), args := args, argTypes := ts }) {i n : Nat} {M : Tab} {v : Bool}
    (ha : args.toList.mapM S.av = some [.p i 0, .v (.agg (adc v n))]) (hb : S.blk i = some (.ext (tabA M))) (hn : n < 2 ^ 128) :
    OpOK Try.prog F ops o S { val := .v (fdRes v n (fdA M v n)), rd := [i] } :=
  ok_call_val hw ho fn11 _ ha fun ρ w h1 _ => find_any v n hn w (h1 i (by simp) _ hb)
theorem o_neqb (hw : want ops S o = some true) {x y : Operand} {t' : TypeId} (ho : o.op = .binOp .neq 4 x y t') {a b c : Bool} (hx : S.av x = some (.v (.bool a))) (hy : S.av y = some (.v (.bool b))) (hc : (a != b) = c) : OpOK Try.prog F ops o S { val := .v (.bool c) } :=
  ok_value hw fun ρ a' w h1 _ _ => by
    have e1 := h1 x (by simp [ho, Op.operands]) _ hx
    have e2 := h1 y (by simp [ho, Op.operands]) _ hy
    subst hc
    have hg : (do eqGuard .neq 4 x y (.bool a) (.bool b); binOp .neq 4 (.bool a) (.bool b) : Sem Value).run Try.prog w = .ok (.bool (a != b)) w := by
      cases a <;> cases b <;> kernel_rfl
    simp only [execOp, ho, e1, e2, AV.to_v] at hg ⊢
    rw [Sem.run_bind, hg]
    rfl
theorem o_neg (hw : want ops S o = some true) {x : Operand} {t : TypeId} (ho : o.op = .unOp .neg t x) {a c : Int} (hx : S.av x = some (.v (.int .i64 a))) (hc : IntKind.i64.wrap (-a) = c) : OpOK Try.prog F ops o S { val := .v (.int .i64 c) } :=
  ok_value hw fun ρ a' w h1 _ _ => by
    have e1 := h1 x (by simp [ho, Op.operands]) _ hx
    subst hc
    simp [execOp, ho, e1, Op.unary, Op.intArith]
end
theorem r_addz {P : Program} {t : TypeId} {a b c : Int} (h : IntKind.i64.wrap (a + b) = c) (w : World) : (binOp .add t (.int .i64 a) (.int .i64 b)).run P w = .ok (.int .i64 c) w := by
  subst h; rfl
theorem r_addb {P : Program} {t : TypeId} {n m x : Nat} (h : byteOf n m + x < 256) (w : World) : (binOp .add t (byteV n m) (.int .u8 (x : Nat))).run P w = .ok (.int .u8 ((byteOf n m + x : Nat) : Int)) w := by
  show Result.ok (Value.int .u8 (IntKind.u8.wrap ((byteOf n m : Int) + x))) w = _
  rw [IntKind.wrap_u8]
  congr 2
  omega
theorem r_shr128 {P : Program} {t : TypeId} {s : Nat} (k : IntKind) (hs : s < 8) (w : World) : (binOp .shr t (.int .u8 128) (.int k s)).run P w = .ok (.int .u8 ((2 ^ (7 - s) : Nat) : Int)) w := by
  have : s = 0 ∨ s = 1 ∨ s = 2 ∨ s = 3 ∨ s = 4 ∨ s = 5 ∨ s = 6 ∨ s = 7 := by omega
  rcases this with rfl | rfl | rfl | rfl | rfl | rfl | rfl | rfl <;> rfl
/-- a bit that is nought, set -/
theorem top_bit (n b : Nat) (hb : b < 128) : bitA (topN n b) b = 0 := by
  have hp : 0 < 2 ^ (127 - b) := Nat.pow_pos (by decide)
  rw [bitA, topN_topD, show 128 - b = 127 - b + 1 by omega, Nat.pow_succ, ← Nat.mul_assoc, Nat.mul_right_comm, Nat.mul_div_cancel _ hp]
  omega
theorem high_byte (n b : Nat) (hb : b < 128) : byteOf (topN n b) (15 - b / 8) + 2 ^ (7 - b % 8) < 256 := by
  have h1 := byte_bit (topN n b) b hb
  rw [top_bit n b hb] at h1
  have h2 := byteOf_lt (topN n b) (15 - b / 8)
  generalize byteOf (topN n b) (15 - b / 8) = x at *
  have : b % 8 = 0 ∨ b % 8 = 1 ∨ b % 8 = 2 ∨ b % 8 = 3 ∨ b % 8 = 4 ∨ b % 8 = 5 ∨ b % 8 = 6 ∨ b % 8 = 7 := by omega
  rcases this with h | h | h | h | h | h | h | h <;> rw [h] at h1 ⊢ <;> omega
theorem high_set {n b : Nat} (hn : n < 2 ^ 128) (hb : b < 128) : setB (topN n b) (b / 8) (byteOf (topN n b) (15 - b / 8) + 2 ^ (7 - b % 8)) = topN n b + 2 ^ (127 - b) := by
  have h := setB_sum (c := byteOf (topN n b) (15 - b / 8) + 2 ^ (7 - b % 8)) (topN_lt (b := b) hn) (show b / 8 < 16 by omega)
  have e : 2 ^ (7 - b % 8) * 256 ^ (15 - b / 8) = 2 ^ (127 - b) := by rw [pow_256, ← Nat.pow_add]; congr 1; omega
  rw [Nat.add_mul, e] at h
  generalize setB (topN n b) (b / 8) (byteOf (topN n b) (15 - b / 8) + 2 ^ (7 - b % 8)) = s at *
  generalize byteOf (topN n b) (15 - b / 8) * 256 ^ (15 - b / 8) = q at *
  clear hn
  omega
end Go.Proofs.Ytnppgaohfegloaa
