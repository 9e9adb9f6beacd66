/-
  Operations on numbers, at the abstract state.
-/
import Derived.Test.YtnbdeajjfhlmnaaNum
namespace Go.Proofs.Ytnbdeajjfhlmnaa
open Go.RowKit

section
variable {P : Program} {F : Fr} {ops : Array Oper} {S : St} {o : Oper}

theorem o_bin (hw : want ops S o = some true) {op : BinOp} {x y : Operand} {t t' : TypeId} (ho : o.op = .binOp op t x y t') {k k' : IntKind} {a b : Int} {v : Value}
    (hx : S.av x = some (.v (.int k a))) (hy : S.av y = some (.v (.int k' b))) (h : ∀ w, (binOp op t (.int k a) (.int k' b)).run P w = .ok v w) : OpOK P F ops o S { val := .v v } :=
  ok_value hw fun ρ a' w h1 _ _ => by
    have e1 := h1 x (by simp [ho, Op.operands]) _ hx
    have e2 := h1 y (by simp [ho, Op.operands]) _ hy
    have hg : (eqGuard op t x y (.int k a) (.int k' b)).run P w = .ok () w := by
      unfold eqGuard
      cases op <;> rfl
    simp only [execOp, ho, e1, e2, AV.to_v, Sem.run_bind, hg, Result.andThen_ok, h w]
    rfl

theorem o_conv (hw : want ops S o = some true) {x : Operand} {t t' : TypeId} (ho : o.op = .convert t t' x) {k k' : IntKind} {a : Int} {c : Int}
    (hx : S.av x = some (.v (.int k a))) (hu : (P.underlying t).isSome = true) (hu' : P.underlying t' = some (.int k')) (hc : k'.wrap a = c) : OpOK P F ops o S { val := .v (.int k' c) } :=
  ok_value hw fun ρ a' w h1 _ _ => by
    have e1 := h1 x (by simp [ho, Op.operands]) _ hx
    obtain ⟨d, hd⟩ := Option.isSome_iff_exists.mp hu
    simp [execOp, ho, e1, convert, run_underlying hd, run_underlying hu', Conv.intToInt, hc]

/-- an array or struct made of its parts -/
theorem o_built (hw : want ops S o = some true) {t : TypeId} {parts : Array (Nat × Operand)} (ho : o.op = .build t parts) (hp : S.plain o = true) {v : Value}
    (h : ∀ w, (Instr.build t (parts.map fun p => (p.1, S.fn p.2))).run P w = .ok v w) : OpOK P F ops o S { val := .v v } :=
  ok_pure hw hp fun w => by simp [execOp, ho]; rw [h w]; rfl
end

section
variable {P : Program} {t : TypeId}
theorem r_add64 {a b : Nat} (h : a + b < 18446744073709551616) (w : World) : (binOp .add t (.int .u64 a) (.int .u64 b)).run P w = .ok (.int .u64 ((a + b : Nat) : Int)) w := by
  show Result.ok (Value.int .u64 (IntKind.u64.wrap ((a : Int) + b))) w = _
  rw [IntKind.wrap_u64]; congr 2; omega
theorem r_sub64 {a b : Nat} (h : b ≤ a) (h' : a < 18446744073709551616) (w : World) : (binOp .sub t (.int .u64 a) (.int .u64 b)).run P w = .ok (.int .u64 ((a - b : Nat) : Int)) w := by
  show Result.ok (Value.int .u64 (IntKind.u64.wrap ((a : Int) - b))) w = _
  rw [IntKind.wrap_u64]; congr 2; omega
theorem r_mul64 {a b : Nat} (h : a * b < 18446744073709551616) (w : World) : (binOp .mul t (.int .u64 a) (.int .u64 b)).run P w = .ok (.int .u64 ((a * b : Nat) : Int)) w := by
  show Result.ok (Value.int .u64 (IntKind.u64.wrap ((a : Int) * b))) w = _
  rw [IntKind.wrap_u64, ← Int.natCast_mul]; congr 2; omega
theorem r_shr64 (a s : Nat) (k : IntKind) (hs : s ≤ 64) (w : World) : (binOp .shr t (.int .u64 a) (.int k s)).run P w = .ok (.int .u64 ((a / 2 ^ s : Nat) : Int)) w := by
  have hn : ¬ ((s : Int) < 0) := by omega
  simp only [binOp, Op.shift, hn, if_false, Int.toNat_natCast, IntKind.bits, Nat.min_eq_left hs, Sem.run_pure]
  congr 2
  rw [Int.fdiv_eq_ediv_of_nonneg _ (by have : (0 : Int) < 2 ^ s := Int.pow_pos (by decide); omega)]
  push_cast; rfl
theorem r_shl64 (a s : Nat) (k : IntKind) (hs : s ≤ 64) (w : World) : (binOp .shl t (.int .u64 a) (.int k s)).run P w = .ok (.int .u64 ((a * 2 ^ s % 18446744073709551616 : Nat) : Int)) w := by
  have hn : ¬ ((s : Int) < 0) := by omega
  simp only [binOp, Op.shift, hn, if_false, Int.toNat_natCast, IntKind.bits, Nat.min_eq_left hs, Sem.run_pure, IntKind.wrap_u64]
  congr 2
theorem r_and {k : IntKind} {a b c : Int} (h : bits .and k a b = c) (w : World) : (binOp .and t (.int k a) (.int k b)).run P w = .ok (.int k c) w := by
  subst h
  simp [binOp, intBits_and]
theorem r_or {k : IntKind} {a b c : Int} (h : bits .or k a b = c) (w : World) : (binOp .or t (.int k a) (.int k b)).run P w = .ok (.int k c) w := by
  subst h
  simp [binOp, intBits_or]
theorem r_xor {k : IntKind} {a b c : Int} (h : bits .xor k a b = c) (w : World) : (binOp .xor t (.int k a) (.int k b)).run P w = .ok (.int k c) w := by
  subst h
  simp [binOp, intBits_xor]
/-- int -/
theorem wrap_small (a : Nat) (h : a < 9223372036854775808) : IntKind.i64.wrap (a : Int) = a := by rw [IntKind.wrap_i64]; omega
theorem r_addi {a b : Nat} (h : a + b < 9223372036854775808) (w : World) : (binOp .add t (.int .i64 a) (.int .i64 b)).run P w = .ok (.int .i64 ((a + b : Nat) : Int)) w := by
  show Result.ok (Value.int .i64 (IntKind.i64.wrap ((a : Int) + b))) w = _
  rw [← Int.natCast_add, wrap_small _ h]
theorem r_subi {a b : Nat} (h : b ≤ a) (h' : a < 9223372036854775808) (w : World) : (binOp .sub t (.int .i64 a) (.int .i64 b)).run P w = .ok (.int .i64 ((a - b : Nat) : Int)) w := by
  show Result.ok (Value.int .i64 (IntKind.i64.wrap ((a : Int) - b))) w = _
  have : (a : Int) - b = ((a - b : Nat) : Int) := by omega
  rw [this, wrap_small _ (by omega)]
theorem r_muli {a b : Nat} (h : a * b < 9223372036854775808) (w : World) : (binOp .mul t (.int .i64 a) (.int .i64 b)).run P w = .ok (.int .i64 ((a * b : Nat) : Int)) w := by
  show Result.ok (Value.int .i64 (IntKind.i64.wrap ((a : Int) * b))) w = _
  rw [← Int.natCast_mul, wrap_small _ h]
theorem r_quoi {a b : Nat} (h : b ≠ 0) (h' : a < 9223372036854775808) (w : World) : (binOp .quo t (.int .i64 a) (.int .i64 b)).run P w = .ok (.int .i64 ((a / b : Nat) : Int)) w := by
  have hb : ¬ ((b : Int) = 0) := by omega
  have : (a : Int).tdiv b = ((a / b : Nat) : Int) := by rw [Int.tdiv_eq_ediv_of_nonneg (by omega)]; simp
  have hlt : a / b < 9223372036854775808 := Nat.lt_of_le_of_lt (Nat.div_le_self _ _) h'
  simp only [binOp, ne_eq, not_true_eq_false, if_false, Op.intDiv, hb, this, Sem.run_pure, wrap_small _ hlt]
theorem r_remi {a b : Nat} (h : b ≠ 0) (w : World) : (binOp .rem t (.int .i64 a) (.int .i64 b)).run P w = .ok (.int .i64 ((a % b : Nat) : Int)) w := by
  have hb : ¬ ((b : Int) = 0) := by omega
  have : (a : Int).tmod b = ((a % b : Nat) : Int) := by rw [Int.tmod_eq_emod_of_nonneg (by omega)]; simp
  simp only [binOp, ne_eq, not_true_eq_false, if_false, Op.intDiv, hb, this, Sem.run_pure]
theorem r_lss {k : IntKind} {a b : Nat} {c : Bool} (h : decide (a < b) = c) (w : World) : (binOp .lss t (.int k a) (.int k b)).run P w = .ok (.bool c) w := by
  subst h; simp [binOp, Op.intCmp]
theorem r_geqz {a : Int} {c : Bool} (h : decide (a ≥ 0) = c) (w : World) : (binOp .geq t (.int .i64 a) (.int .i64 0)).run P w = .ok (.bool c) w := by
  subst h; simp [binOp, Op.intCmp]
theorem r_eqli {k : IntKind} {a b : Nat} {c : Bool} (h : decide (a = b) = c) (w : World) : (binOp .eql t (.int k a) (.int k b)).run P w = .ok (.bool c) w := by
  subst h
  have : ((a : Int) == (b : Int)) = decide (a = b) := by
    by_cases h : a = b
    · simp [h]
    · have : ¬ ((a : Int) = b) := by omega
      simp [h, this]
  simp [binOp, Op.intCmp, this]
theorem r_neqi {k : IntKind} {a b : Nat} {c : Bool} (h : decide (a ≠ b) = c) (w : World) : (binOp .neq t (.int k a) (.int k b)).run P w = .ok (.bool c) w := by
  subst h
  have : ((a : Int) != (b : Int)) = !decide (a = b) := by
    by_cases h : a = b
    · simp [h]
    · have : ¬ ((a : Int) = b) := by omega
      simp [h, this]
  simp [binOp, Op.intCmp, this]
/-- a byte shifted down by a computed count -/
theorem r_shr8 (a s : Nat) (k : IntKind) (hs : s ≤ 8) (w : World) : (binOp .shr t (.int .u8 a) (.int k s)).run P w = .ok (.int .u8 ((a / 2 ^ s : Nat) : Int)) w := by
  have hn : ¬ ((s : Int) < 0) := by omega
  simp only [binOp, Op.shift, hn, if_false, Int.toNat_natCast, IntKind.bits, Nat.min_eq_left hs, Sem.run_pure]
  congr 2
  rw [Int.fdiv_eq_ediv_of_nonneg _ (by have : (0 : Int) < 2 ^ s := Int.pow_pos (by decide); omega)]
  push_cast; rfl
theorem u8_and_one (a : Nat) (h : a < 256) : bits .and .u8 (a : Int) 1 = ((a % 2 : Nat) : Int) := by
  have := u8_and_nat a 1 h (by decide)
  rw [nat_mask1] at this
  exact this
end

section
variable {F : Fr} {ops : Array Oper} {S : St} {o : Oper}
/-- one byte of an array of 32, at a place that the walk has come to -/
theorem o_load5 (hw : want ops S o = some true) {x : Operand} (ho : o.op = .load 5 x) {i k n t : Nat} (hx : S.av x = some (.p i k)) (hb : S.blk i = some ⟨bvc n, t⟩) (hk : k < 32) :
    OpOK Try.prog F ops o S { val := .v (byteV n k), rd := [i] } := ok_load_cell hw ho hx hb one5 (get_bvc_lt n k hk)
theorem o_store5 (hw : want ops S o = some true) {x y : Operand} (ho : o.op = .store 5 x y) {i k n t b : Nat} (hx : S.av x = some (.p i k)) (hy : S.av y = some (.v (.int .u8 b)))
    (hb : S.blk i = some ⟨bvc n, t⟩) (hk : k < 32) (hb8 : b < 256) : OpOK Try.prog F ops o S { val := .v undef, wr := some (i, ⟨bvc (setByte n k b), t⟩), rd := [i] } := by
  rw [← bvc_set n k b hk hb8]
  exact ok_store_cell hw ho hx hy hb sz5 rfl (by simp only [size_bvc]; exact hk)
theorem o_at24 (hw : want ops S o = some true) {x ix : Operand} (ho : o.op = .indexAddr 24 x ix) {i : Nat} {k : IntKind} {j : Nat} (hx : S.av x = some (.p i 0)) (hi : S.av ix = some (.v (.int k j))) (hj : j < 32) :
    OpOK Try.prog F ops o S { val := .p i j } := by
  have := ok_index_arr (P := Try.prog) (F := F) hw ho hx hi Try.underlying24 sz5 hj
  simpa using this
theorem o_at41 (hw : want ops S o = some true) {x ix : Operand} (ho : o.op = .indexAddr 41 x ix) {i : Nat} {k : IntKind} {j : Nat} (hx : S.av x = some (.p i 0)) (hi : S.av ix = some (.v (.int k j))) (hj : j < 5) :
    OpOK Try.prog F ops o S { val := .p i j } := by
  have := ok_index_arr (P := Try.prog) (F := F) (e := 39) hw ho hx hi (by kernel_rfl) sz39 hj
  simpa using this
end
end Go.Proofs.Ytnbdeajjfhlmnaa
