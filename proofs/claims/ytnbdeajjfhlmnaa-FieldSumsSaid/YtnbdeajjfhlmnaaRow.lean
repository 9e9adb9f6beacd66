/-
  (wide).plus, (wide).up, row of package field.
-/
import Derived.Test.YtnbdeajjfhlmnaaWide
namespace Go.Proofs.Ytnbdeajjfhlmnaa
open Go.RowKit
theorem wv_def (n : Nat) : wv n = .agg (wvc n) := rfl
attribute [local irreducible] wv wvc

theorem mul64_lt {a b : Nat} (ha : a < 18446744073709551616) (hb : b < 18446744073709551616) : a * b < 340282366920938463463374607431768211456 :=
  Nat.lt_of_lt_of_le (Nat.mul_lt_mul'' ha hb) (by decide)

theorem plus_any (n a b : Nat) (_hn : n < 340282366920938463463374607431768211456) (ha : a < 18446744073709551616) (hb : b < 18446744073709551616) (w : World) :
    Calls Try.prog 60 #[wv n, .int .u64 a, .int .u64 b] w fun e w' => e = .returned (wv ((n + a * b) % 340282366920938463463374607431768211456)) ∧ Below w.heap.size w w' := by
  have hp := mul64_lt ha hb
  go_enter Try.func60, Try.ntmps60
  have h := Rep.start (N := 34) [wv n, .int .u64 a, .int .u64 b] [undef, undef, undef, undef, undef, undef, undef, undef, undef, undef, undef, undef, undef, undef, undef, undef, undef, undef, undef, undef, undef, undef, undef, undef, undef, undef, undef, undef, undef, undef, undef] w rfl
  apply seq_dag hmix h
  case hw =>
    apply Walk.cons
    · exact o_box53 3 rfl rfl rfl
    apply Walk.cons
    · exact o_alloc53 6 rfl rfl
    exact Walk.nil _
  case hck => kernel_rfl
  case hQ =>
    intro ρ A w1 h
    apply seq_dag hmix h
    case hw =>
      apply Walk.cons
      · exact ok_move rfl rfl rfl
      apply Walk.cons
      · exact ok_move rfl rfl rfl
      apply Walk.cons
      · exact ok_call_val rfl rfl fn59 [.v _, .v _] rfl (rd := []) (fun ρ w _ _ => mul64_any a b ha hb w)
      apply Walk.cons
      · exact ok_move rfl rfl rfl
      apply Walk.cons
      · exact o_extract rfl rfl rfl rfl
      apply Walk.cons
      · exact o_extract rfl rfl rfl rfl
      apply Walk.cons
      · exact ok_assign rfl rfl rfl
      apply Walk.cons
      · exact ok_assign rfl rfl rfl
      exact Walk.nil _
    case hck => kernel_rfl
    case hQ =>
      intro ρ A w1 h
      apply seq_dag hmix h
      case hw =>
        apply Walk.cons
        · exact o_lo rfl rfl rfl
        apply Walk.cons
        · exact o_lo39 rfl rfl rfl rfl
        apply Walk.cons
        · exact ok_move rfl rfl rfl
        apply Walk.cons
        · exact o_add64x (a := n % 18446744073709551616) (b := a * b % 18446744073709551616) (k := 0) rfl rfl rfl rfl rfl (by decide)
        apply Walk.cons
        · exact ok_move rfl rfl rfl
        apply Walk.cons
        · exact o_extract rfl rfl rfl rfl
        apply Walk.cons
        · exact o_extract rfl rfl rfl rfl
        apply Walk.cons
        · exact ok_assign rfl rfl rfl
        apply Walk.cons
        · exact ok_assign rfl rfl rfl
        exact Walk.nil _
      case hck => kernel_rfl
      case hQ =>
        intro ρ A w1 h
        apply seq_dag hmix h
        case hw =>
          apply Walk.cons
          · exact o_hi rfl rfl rfl
          apply Walk.cons
          · exact o_hi39 rfl rfl rfl rfl
          apply Walk.cons
          · exact ok_move rfl rfl rfl
          apply Walk.cons
          · exact ok_move rfl rfl rfl
          apply Walk.cons
          · exact o_add64x (a := n / 18446744073709551616) (b := a * b / 18446744073709551616) (k := (n % 18446744073709551616 + a * b % 18446744073709551616 + 0) / 18446744073709551616) rfl rfl rfl rfl rfl (by omega)
          apply Walk.cons
          · exact ok_move rfl rfl rfl
          apply Walk.cons
          · exact o_extract rfl rfl rfl rfl
          apply Walk.cons
          · exact o_extract rfl rfl rfl rfl
          apply Walk.cons
          · exact ok_assign rfl rfl rfl
          exact Walk.nil _
        case hck => kernel_rfl
        case hQ =>
          intro ρ A w1 h
          apply seq_dag hmix h
          case hw =>
            apply Walk.cons
            · exact ok_move rfl rfl rfl
            apply Walk.cons
            · exact ok_move rfl rfl rfl
            apply Walk.cons
            · exact o_build53 (n := (n + a * b) % 340282366920938463463374607431768211456) rfl rfl rfl rfl (by generalize a * b = p at *; omega) (by generalize a * b = p at *; omega)
            apply Walk.cons
            · exact o_store53 rfl rfl rfl rfl rfl
            exact Walk.nil _
          case hck => kernel_rfl
          case hQ =>
            intro ρ A w1 h
            refine wp_ret ?_
            exact h.result Try.results60 rfl rfl agg53 sz53 (size_wvc _) ⟨by rw [← wv_def], h.below⟩

theorem up_any (n : Nat) (_hn : n < 340282366920938463463374607431768211456) (w : World) : Calls Try.prog 55 #[wv n] w fun e w' => e = .returned (.int .u64 ((n / 2251799813685248 % 18446744073709551616 : Nat) : Int)) ∧ Below w.heap.size w w' := by
  have hor : bits .or .u64 ((n / 18446744073709551616 * 2 ^ 13 % 18446744073709551616 : Nat) : Int) ((n % 18446744073709551616 / 2 ^ 51 : Nat) : Int) = ((n / 2251799813685248 % 18446744073709551616 : Nat) : Int) := by
    have h1 : n % 18446744073709551616 / 2 ^ 51 < 2 ^ 13 := by omega
    rw [u64_or_nat _ _ (by omega) (by omega), nat_join 13 _ _ (by omega) h1]
    congr 1
    omega
  go_enter Try.func55, Try.ntmps55
  have h := Rep.start (N := 10) [wv n] [undef, undef, undef, undef, undef, undef, undef, undef, undef] w rfl
  apply seq_dag hmix h
  case hw =>
    apply Walk.cons
    · exact o_box53 1 rfl rfl rfl
    apply Walk.cons
    · exact ok_assign rfl rfl rfl
    exact Walk.nil _
  case hck => kernel_rfl
  case hQ =>
    intro ρ A w1 h
    apply seq_dag hmix h
    case hw =>
      apply Walk.cons
      · exact o_hi rfl rfl rfl
      apply Walk.cons
      · exact o_hi39 rfl rfl rfl rfl
      apply Walk.cons
      · exact o_bin rfl rfl rfl rfl (r_shl64 _ 13 .u64 (by decide))
      apply Walk.cons
      · exact o_lo rfl rfl rfl
      apply Walk.cons
      · exact o_lo39 rfl rfl rfl rfl
      apply Walk.cons
      · exact o_bin rfl rfl rfl rfl (r_shr64 _ 51 .u64 (by decide))
      apply Walk.cons
      · exact o_bin rfl rfl rfl rfl (r_or hor)
      apply Walk.cons
      · exact ok_assign rfl rfl rfl
      exact Walk.nil _
    case hck => kernel_rfl
    case hQ =>
      intro ρ A w1 h
      refine wp_ret ?_
      exact h.result_tmp Try.results55 rfl ⟨rfl, h.below⟩

def rowN (a0 b0 a1 b1 a2 b2 a3 b3 a4 b4 : Nat) : Nat := (a0 * b0 + a1 * b1 + a2 * b2 + a3 * b3 + a4 * b4) % 340282366920938463463374607431768211456
theorem fn54 : goFn Try.prog 54 = true := by kernel_rfl
theorem fn55 : goFn Try.prog 55 = true := by kernel_rfl
theorem row_any (a0 b0 a1 b1 a2 b2 a3 b3 a4 b4 : Nat) (ha0 : a0 < 18446744073709551616) (hb0 : b0 < 18446744073709551616) (ha1 : a1 < 18446744073709551616) (hb1 : b1 < 18446744073709551616) (ha2 : a2 < 18446744073709551616) (hb2 : b2 < 18446744073709551616) (ha3 : a3 < 18446744073709551616) (hb3 : b3 < 18446744073709551616) (ha4 : a4 < 18446744073709551616) (hb4 : b4 < 18446744073709551616) (w : World) :
    Calls Try.prog 54 #[.int .u64 a0, .int .u64 b0, .int .u64 a1, .int .u64 b1, .int .u64 a2, .int .u64 b2, .int .u64 a3, .int .u64 b3, .int .u64 a4, .int .u64 b4] w fun e w' => e = .returned (wv (rowN a0 b0 a1 b1 a2 b2 a3 b3 a4 b4)) ∧ Below w.heap.size w w' := by
  have hsum : (((((a0 * b0) + a1 * b1) % 340282366920938463463374607431768211456 + a2 * b2) % 340282366920938463463374607431768211456 + a3 * b3) % 340282366920938463463374607431768211456 + a4 * b4) % 340282366920938463463374607431768211456 = rowN a0 b0 a1 b1 a2 b2 a3 b3 a4 b4 := by unfold rowN; omega
  have hp := mul64_lt ha0 hb0
  have hm : ∀ x, x % 340282366920938463463374607431768211456 < 340282366920938463463374607431768211456 := fun x => Nat.mod_lt _ (by decide)
  go_enter Try.func54, Try.ntmps54
  have h := Rep.start (N := 44) [.int .u64 a0, .int .u64 b0, .int .u64 a1, .int .u64 b1, .int .u64 a2, .int .u64 b2, .int .u64 a3, .int .u64 b3, .int .u64 a4, .int .u64 b4] [undef, undef, undef, undef, undef, undef, undef, undef, undef, undef, undef, undef, undef, undef, undef, undef, undef, undef, undef, undef, undef, undef, undef, undef, undef, undef, undef, undef, undef, undef, undef, undef, undef, undef] w rfl
  apply seq_dag hmix h
  case hw =>
    apply Walk.cons
    · exact o_alloc53 20 rfl rfl
    exact Walk.nil _
  case hck => kernel_rfl
  case hQ =>
    intro ρ A w1 h
    apply seq_dag hmix h
    case hw =>
      apply Walk.cons
      · exact ok_move rfl rfl rfl
      apply Walk.cons
      · exact ok_move rfl rfl rfl
      apply Walk.cons
      · exact ok_call_val rfl rfl fn59 [.v _, .v _] rfl (rd := []) (fun ρ w _ _ => mul64_any a0 b0 ha0 hb0 w)
      apply Walk.cons
      · exact ok_move rfl rfl rfl
      apply Walk.cons
      · exact o_extract rfl rfl rfl rfl
      apply Walk.cons
      · exact o_extract rfl rfl rfl rfl
      apply Walk.cons
      · exact ok_assign rfl rfl rfl
      apply Walk.cons
      · exact ok_assign rfl rfl rfl
      exact Walk.nil _
    case hck => kernel_rfl
    case hQ =>
      intro ρ A w1 h
      apply seq_dag hmix h
      case hw =>
        apply Walk.cons
        · exact ok_move rfl rfl rfl
        apply Walk.cons
        · exact ok_move rfl rfl rfl
        apply Walk.cons
        · exact o_build53 (n := a0 * b0) rfl rfl rfl rfl rfl rfl
        apply Walk.cons
        · exact ok_move rfl rfl rfl
        apply Walk.cons
        · exact ok_move rfl rfl rfl
        apply Walk.cons
        · exact ok_call_val rfl rfl fn60 [.v _, .v _, .v _] rfl (rd := []) (fun ρ w _ _ => plus_any (a0 * b0) a1 b1 hp ha1 hb1 w)
        apply Walk.cons
        · exact ok_move rfl rfl rfl
        apply Walk.cons
        · exact ok_move rfl rfl rfl
        apply Walk.cons
        · exact ok_call_val rfl rfl fn60 [.v _, .v _, .v _] rfl (rd := []) (fun ρ w _ _ => plus_any ((a0 * b0 + a1 * b1) % 340282366920938463463374607431768211456) a2 b2 (hm _) ha2 hb2 w)
        apply Walk.cons
        · exact ok_move rfl rfl rfl
        apply Walk.cons
        · exact ok_move rfl rfl rfl
        apply Walk.cons
        · exact ok_call_val rfl rfl fn60 [.v _, .v _, .v _] rfl (rd := []) (fun ρ w _ _ => plus_any (((a0 * b0 + a1 * b1) % 340282366920938463463374607431768211456 + a2 * b2) % 340282366920938463463374607431768211456) a3 b3 (hm _) ha3 hb3 w)
        apply Walk.cons
        · exact ok_move rfl rfl rfl
        apply Walk.cons
        · exact ok_move rfl rfl rfl
        apply Walk.cons
        · exact ok_call_val rfl rfl fn60 [.v _, .v _, .v _] rfl (rd := []) (fun ρ w _ _ => plus_any ((((a0 * b0 + a1 * b1) % 340282366920938463463374607431768211456 + a2 * b2) % 340282366920938463463374607431768211456 + a3 * b3) % 340282366920938463463374607431768211456) a4 b4 (hm _) ha4 hb4 w)
        apply Walk.cons
        · exact o_store53 rfl rfl rfl rfl rfl
        exact Walk.nil _
      case hck => kernel_rfl
      case hQ =>
        intro ρ A w1 h
        refine wp_ret ?_
        exact h.result Try.results54 rfl rfl agg53 sz53 (size_wvc _) ⟨by rw [← wv_def, hsum], h.below⟩
end Go.Proofs.Ytnbdeajjfhlmnaa
