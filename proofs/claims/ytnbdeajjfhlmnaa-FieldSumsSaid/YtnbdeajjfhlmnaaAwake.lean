/-
  Calls of package field's functions inside the laws, and what 'awake' of the first law file hands back.
-/
import Derived.Test.YtnbdeajjfhlmnaaField
namespace Go.Proofs.Ytnbdeajjfhlmnaa
open Go.RowKit

theorem lt1 {a : Nat} (ha : a < 2 ^ 256) : ∀ j, [a].getD j 0 < 2 ^ 256 := fun j => match j with
  | 0 => ha
  | _ + 1 => by simp
theorem lt2 {a b : Nat} (ha : a < 2 ^ 256) (hb : b < 2 ^ 256) : ∀ j, [a, b].getD j 0 < 2 ^ 256 := fun j => match j with
  | 0 => ha
  | 1 => hb
  | _ + 2 => by simp
theorem lt3 {a b c : Nat} (ha : a < 2 ^ 256) (hb : b < 2 ^ 256) (hc : c < 2 ^ 256) : ∀ j, [a, b, c].getD j 0 < 2 ^ 256 := fun j => match j with
  | 0 => ha
  | 1 => hb
  | 2 => hc
  | _ + 3 => by simp
theorem subP_lt (n m : Nat) : subP n m < 2 ^ 256 := pp_lt _
theorem powP_lt (n m : Nat) : powP n m < 2 ^ 256 := pp_lt _
theorem ofP_lt (a : Int) : ofP a < 2 ^ 256 := by
  have h : a % (pp : Int) < pp := Int.emod_lt_of_pos _ (by decide)
  have hp : (pp : Int) < 2 ^ 256 := by decide
  have h0 : 0 ≤ a % (pp : Int) := Int.emod_nonneg _ (by decide)
  unfold ofP
  generalize a % (pp : Int) = x at *
  generalize (pp : Int) = y at *
  omega
section
variable {F : Fr} {ops : Array Oper} {S : St} {o : Oper}
theorem fn15 : goFn Try.prog 15 = true := by kernel_rfl
theorem fn16 : goFn Try.prog 16 = true := by kernel_rfl
theorem fn20 : goFn Try.prog 20 = true := by kernel_rfl
theorem fn21 : goFn Try.prog 21 = true := by kernel_rfl
theorem fn25 : goFn Try.prog 25 = true := by kernel_rfl
theorem fn27 : goFn Try.prog 27 = true := by kernel_rfl
theorem fn30 : goFn Try.prog 30 = true := by kernel_rfl
theorem add_eq1 (a : Nat) : sumT [a] ([a] : List Nat).length % pp = (a) % pp := by simp [sumT]
theorem o_add1 (hw : want ops S o = some true) {args : Array Operand} {ts : Array TypeId} (ho : o.op = .call { callee := .value (.func 15), args := args, argTypes := ts }) {i a : Nat}
    (hx : args.toList.mapM S.av = some [.s i 0 1 1]) (hblk : S.blk i = some ⟨catc [a], 24⟩) (ha : a < 2 ^ 256) : OpOK Try.prog F ops o S { val := .v (bv ((a) % pp)), rd := [i] } := by
  have := ok_call_val (F := F) hw ho fn15 _ hx (rd := [i]) (fun ρ w hm _ => add15_any [a] (lt1 ha) (by simp) _ w (Sl.of_blk (hm i (by simp) _ hblk)))
  rwa [add_eq1] at this
theorem add_eq2 (a b : Nat) : sumT [a, b] ([a, b] : List Nat).length % pp = (a + b) % pp := by simp [sumT]
theorem o_add2 (hw : want ops S o = some true) {args : Array Operand} {ts : Array TypeId} (ho : o.op = .call { callee := .value (.func 15), args := args, argTypes := ts }) {i a b : Nat}
    (hx : args.toList.mapM S.av = some [.s i 0 2 2]) (hblk : S.blk i = some ⟨catc [a, b], 24⟩) (ha : a < 2 ^ 256) (hb : b < 2 ^ 256) : OpOK Try.prog F ops o S { val := .v (bv ((a + b) % pp)), rd := [i] } := by
  have := ok_call_val (F := F) hw ho fn15 _ hx (rd := [i]) (fun ρ w hm _ => add15_any [a, b] (lt2 ha hb) (by simp) _ w (Sl.of_blk (hm i (by simp) _ hblk)))
  rwa [add_eq2] at this
theorem add_eq3 (a b c : Nat) : sumT [a, b, c] ([a, b, c] : List Nat).length % pp = (a + b + c) % pp := by simp [sumT]
theorem o_add3 (hw : want ops S o = some true) {args : Array Operand} {ts : Array TypeId} (ho : o.op = .call { callee := .value (.func 15), args := args, argTypes := ts }) {i a b c : Nat}
    (hx : args.toList.mapM S.av = some [.s i 0 3 3]) (hblk : S.blk i = some ⟨catc [a, b, c], 24⟩) (ha : a < 2 ^ 256) (hb : b < 2 ^ 256) (hc : c < 2 ^ 256) : OpOK Try.prog F ops o S { val := .v (bv ((a + b + c) % pp)), rd := [i] } := by
  have := ok_call_val (F := F) hw ho fn15 _ hx (rd := [i]) (fun ρ w hm _ => add15_any [a, b, c] (lt3 ha hb hc) (by simp) _ w (Sl.of_blk (hm i (by simp) _ hblk)))
  rwa [add_eq3] at this
theorem mul_eq1 (a : Nat) : prodT [a] ([a] : List Nat).length % pp = (a) % pp := by simp [prodT]
theorem o_mul1 (hw : want ops S o = some true) {args : Array Operand} {ts : Array TypeId} (ho : o.op = .call { callee := .value (.func 16), args := args, argTypes := ts }) {i a : Nat}
    (hx : args.toList.mapM S.av = some [.s i 0 1 1]) (hblk : S.blk i = some ⟨catc [a], 24⟩) (ha : a < 2 ^ 256) : OpOK Try.prog F ops o S { val := .v (bv ((a) % pp)), rd := [i] } := by
  have := ok_call_val (F := F) hw ho fn16 _ hx (rd := [i]) (fun ρ w hm _ => mul16_any [a] (lt1 ha) (by simp) _ w (Sl.of_blk (hm i (by simp) _ hblk)))
  rwa [mul_eq1] at this
theorem mul_eq2 (a b : Nat) : prodT [a, b] ([a, b] : List Nat).length % pp = (a * b) % pp := by simp [prodT]
theorem o_mul2 (hw : want ops S o = some true) {args : Array Operand} {ts : Array TypeId} (ho : o.op = .call { callee := .value (.func 16), args := args, argTypes := ts }) {i a b : Nat}
    (hx : args.toList.mapM S.av = some [.s i 0 2 2]) (hblk : S.blk i = some ⟨catc [a, b], 24⟩) (ha : a < 2 ^ 256) (hb : b < 2 ^ 256) : OpOK Try.prog F ops o S { val := .v (bv ((a * b) % pp)), rd := [i] } := by
  have := ok_call_val (F := F) hw ho fn16 _ hx (rd := [i]) (fun ρ w hm _ => mul16_any [a, b] (lt2 ha hb) (by simp) _ w (Sl.of_blk (hm i (by simp) _ hblk)))
  rwa [mul_eq2] at this
theorem mul_eq3 (a b c : Nat) : prodT [a, b, c] ([a, b, c] : List Nat).length % pp = (a * b * c) % pp := by simp [prodT]
theorem o_mul3 (hw : want ops S o = some true) {args : Array Operand} {ts : Array TypeId} (ho : o.op = .call { callee := .value (.func 16), args := args, argTypes := ts }) {i a b c : Nat}
    (hx : args.toList.mapM S.av = some [.s i 0 3 3]) (hblk : S.blk i = some ⟨catc [a, b, c], 24⟩) (ha : a < 2 ^ 256) (hb : b < 2 ^ 256) (hc : c < 2 ^ 256) : OpOK Try.prog F ops o S { val := .v (bv ((a * b * c) % pp)), rd := [i] } := by
  have := ok_call_val (F := F) hw ho fn16 _ hx (rd := [i]) (fun ρ w hm _ => mul16_any [a, b, c] (lt3 ha hb hc) (by simp) _ w (Sl.of_blk (hm i (by simp) _ hblk)))
  rwa [mul_eq3] at this
theorem o_canon (hw : want ops S o = some true) {args : Array Operand} {ts : Array TypeId} (ho : o.op = .call { callee := .value (.func 23), args := args, argTypes := ts }) {a : Nat}
    (hx : args.toList.mapM S.av = some [.v (bv a)]) (ha : a < 2 ^ 256) : OpOK Try.prog F ops o S { val := .v (bv (a % pp)) } :=
  ok_call_val hw ho fn23 _ hx (rd := []) (fun _ w _ _ => canon_any a ha w)
theorem o_sub (hw : want ops S o = some true) {args : Array Operand} {ts : Array TypeId} (ho : o.op = .call { callee := .value (.func 25), args := args, argTypes := ts }) {a b : Nat}
    (hx : args.toList.mapM S.av = some [.v (bv a), .v (bv b)]) (ha : a < 2 ^ 256) (hb : b < 2 ^ 256) : OpOK Try.prog F ops o S { val := .v (bv (subP a b)) } :=
  ok_call_val hw ho fn25 _ hx (rd := []) (fun _ w _ _ => sub25_any a b ha hb w)
theorem o_same (hw : want ops S o = some true) {args : Array Operand} {ts : Array TypeId} (ho : o.op = .call { callee := .value (.func 27), args := args, argTypes := ts }) {a b : Nat}
    (hx : args.toList.mapM S.av = some [.v (bv a), .v (bv b)]) (ha : a < 2 ^ 256) (hb : b < 2 ^ 256) {c : Bool} (hc : decide (a % pp = b % pp) = c) : OpOK Try.prog F ops o S { val := .v (.bool c) } := by
  subst hc
  exact ok_call_val hw ho fn27 _ hx (rd := []) (fun _ w _ _ => same_any a b ha hb w)
theorem o_pow (hw : want ops S o = some true) {args : Array Operand} {ts : Array TypeId} (ho : o.op = .call { callee := .value (.func 28), args := args, argTypes := ts }) {a b : Nat}
    (hx : args.toList.mapM S.av = some [.v (bv a), .v (bv b)]) (ha : a < 2 ^ 256) (hb : b < 2 ^ 256) : OpOK Try.prog F ops o S { val := .v (bv (powP a b)) } :=
  ok_call_val hw ho fn28 _ hx (rd := []) (fun _ w _ _ => pow_any a b ha hb w)
theorem o_inv (hw : want ops S o = some true) {args : Array Operand} {ts : Array TypeId} (ho : o.op = .call { callee := .value (.func 30), args := args, argTypes := ts }) {a : Nat}
    (hx : args.toList.mapM S.av = some [.v (bv a)]) (ha : a < 2 ^ 256) : OpOK Try.prog F ops o S { val := .v (bv (powP a (pp - 2))) } :=
  ok_call_val hw ho fn30 _ hx (rd := []) (fun _ w _ _ => inv_any a ha w)
theorem o_of (hw : want ops S o = some true) {args : Array Operand} {ts : Array TypeId} (ho : o.op = .call { callee := .value (.func 21), args := args, argTypes := ts }) {a : Int}
    (hx : args.toList.mapM S.av = some [.v (.int .i64 a)]) (h0 : -9223372036854775808 ≤ a) (h1 : a < 9223372036854775808) {n : Nat} (hn : ofP a = n) : OpOK Try.prog F ops o S { val := .v (bv n) } := by
  subst hn
  exact ok_call_val hw ho fn21 _ hx (rd := []) (fun _ w _ _ => of_any a h0 h1 w)
end
attribute [local irreducible] pp

set_option maxRecDepth 20000 in
theorem awake_any (w : World) : Calls Try.prog 20 #[] w fun e w' => e = .returned (.bool true) ∧ Below w.heap.size w w' := by
  go_enter Try.func20, Try.ntmps20
  have h := Rep.start (N := 28) [] [undef, undef, undef, undef, undef, undef, undef, undef, undef, undef, undef, undef, undef, undef, undef, undef, undef, undef, undef, undef, undef, undef, undef, undef, undef, undef, undef, undef] w rfl
  apply seq_dag hmix h
  case hw =>
    apply Walk.cons
    · exact ok_assign rfl rfl rfl
    exact Walk.nil _
  case hck => kernel_rfl
  case hQ =>
    intro ρ A w1 h
    apply seq_dag hmix h
    case hw =>
      apply Walk.cons
      · exact o_of (a := 19) (n := 19) rfl rfl rfl (by decide) (by decide) (by decide +kernel)
      apply Walk.cons
      · exact o_built rfl rfl (by kernel_rfl) (v := bv 19) (fun w => by kernel_rfl)
      apply Walk.cons
      · exact o_eql24 rfl rfl rfl rfl (by first | assumption | exact pp_lt _ | exact subP_lt _ _ | exact powP_lt _ _ | decide +kernel) (by first | assumption | exact pp_lt _ | exact subP_lt _ _ | exact powP_lt _ _ | decide +kernel) (decide_eq_true (by decide +kernel))
      apply Walk.cons
      · exact ok_move rfl rfl rfl
      apply Walk.cons
      · exact o_of (a := -1) (n := (pp - 1)) rfl rfl rfl (by decide) (by decide) (by decide +kernel)
      apply Walk.cons
      · exact o_of (a := 3) (n := 3) rfl rfl rfl (by decide) (by decide) (by decide +kernel)
      apply Walk.cons
      · exact o_lit2 7 rfl rfl rfl rfl rfl
      apply Walk.cons
      · exact o_add2 rfl rfl rfl rfl (by first | assumption | exact pp_lt _ | exact subP_lt _ _ | exact powP_lt _ _ | decide +kernel) (by first | assumption | exact pp_lt _ | exact subP_lt _ _ | exact powP_lt _ _ | decide +kernel)
      apply Walk.cons
      · exact o_built rfl rfl (by kernel_rfl) (v := bv 2) (fun w => by kernel_rfl)
      apply Walk.cons
      · exact o_eql24 rfl rfl rfl rfl (by first | assumption | exact pp_lt _ | exact subP_lt _ _ | exact powP_lt _ _ | decide +kernel) (by first | assumption | exact pp_lt _ | exact subP_lt _ _ | exact powP_lt _ _ | decide +kernel) (decide_eq_true (by decide +kernel))
      apply Walk.cons
      · exact ok_pick_true rfl rfl rfl rfl
      apply Walk.cons
      · exact ok_move rfl rfl rfl
      apply Walk.cons
      · exact o_of (a := -1) (n := (pp - 1)) rfl rfl rfl (by decide) (by decide) (by decide +kernel)
      apply Walk.cons
      · exact o_of (a := -1) (n := (pp - 1)) rfl rfl rfl (by decide) (by decide) (by decide +kernel)
      apply Walk.cons
      · exact o_lit2 15 rfl rfl rfl rfl rfl
      apply Walk.cons
      · exact o_mul2 rfl rfl rfl rfl (by first | assumption | exact pp_lt _ | exact subP_lt _ _ | exact powP_lt _ _ | decide +kernel) (by first | assumption | exact pp_lt _ | exact subP_lt _ _ | exact powP_lt _ _ | decide +kernel)
      apply Walk.cons
      · exact o_built rfl rfl (by kernel_rfl) (v := bv 1) (fun w => by kernel_rfl)
      apply Walk.cons
      · exact o_eql24 rfl rfl rfl rfl (by first | assumption | exact pp_lt _ | exact subP_lt _ _ | exact powP_lt _ _ | decide +kernel) (by first | assumption | exact pp_lt _ | exact subP_lt _ _ | exact powP_lt _ _ | decide +kernel) (decide_eq_true (by decide +kernel))
      apply Walk.cons
      · exact ok_pick_true rfl rfl rfl rfl
      apply Walk.cons
      · exact ok_move rfl rfl rfl
      apply Walk.cons
      · exact o_built rfl rfl (by kernel_rfl) (v := bv (64 * 256 ^ 31)) (fun w => by kernel_rfl)
      apply Walk.cons
      · exact o_built rfl rfl (by kernel_rfl) (v := bv 4) (fun w => by kernel_rfl)
      apply Walk.cons
      · exact o_lit2 23 rfl rfl rfl rfl rfl
      apply Walk.cons
      · exact o_mul2 rfl rfl rfl rfl (by first | assumption | exact pp_lt _ | exact subP_lt _ _ | exact powP_lt _ _ | decide +kernel) (by first | assumption | exact pp_lt _ | exact subP_lt _ _ | exact powP_lt _ _ | decide +kernel)
      apply Walk.cons
      · exact o_built rfl rfl (by kernel_rfl) (v := bv 38) (fun w => by kernel_rfl)
      apply Walk.cons
      · exact o_eql24 rfl rfl rfl rfl (by first | assumption | exact pp_lt _ | exact subP_lt _ _ | exact powP_lt _ _ | decide +kernel) (by first | assumption | exact pp_lt _ | exact subP_lt _ _ | exact powP_lt _ _ | decide +kernel) (decide_eq_true (by decide +kernel))
      apply Walk.cons
      · exact ok_pick_true rfl rfl rfl rfl
      apply Walk.cons
      · exact ok_assign rfl rfl rfl
      exact Walk.nil _
    case hck => kernel_rfl
    case hQ =>
      intro ρ A w1 h
      refine wp_ret ?_
      exact h.result_tmp Try.results20 rfl ⟨rfl, h.below⟩
end Go.Proofs.Ytnbdeajjfhlmnaa
