/-
  aditlaw01.FieldRules: what it hands back is true, for any three numbers of 32 bytes.
-/
import Derived.Test.YtnbdeajjfhlmnaaAwake
namespace Go.Proofs.Ytnbdeajjfhlmnaa
open Go.RowKit

theorem rule_add (a b c : Nat) : (a + b + c) % pp = ((c + a) % pp + b) % pp := by
  rw [Nat.add_mod ((c + a) % pp), Nat.mod_mod, ← Nat.add_mod]; congr 1; omega
theorem rule_sub (a b : Nat) : (subP a b + b) % pp = a % pp := by
  have hl : b % pp < pp := Nat.mod_lt _ (by decide)
  rw [subP, Nat.add_mod, Nat.mod_mod, ← Nat.add_mod]
  have : a + (pp - b % pp) + b = a + pp * (b / pp + 1) := by
    have := Nat.div_add_mod b pp
    rw [Nat.mul_add]
    omega
  rw [this, Nat.add_mul_mod_self_left]
theorem rule_sub0 (a : Nat) : subP a a = 0 := by
  have hl : a % pp < pp := Nat.mod_lt _ (by decide)
  have : a + (pp - a % pp) = pp * (a / pp + 1) := by
    have := Nat.div_add_mod a pp
    rw [Nat.mul_add]
    omega
  rw [subP, this, Nat.mul_mod_right]
theorem mulmod_l (x y : Nat) : x % pp * y % pp = x * y % pp := Nat.mod_mul_mod x y pp
theorem mulmod_r (x y : Nat) : x * (y % pp) % pp = x * y % pp := Nat.mul_mod_mod x y pp
theorem addmod_l (x y : Nat) : (x % pp + y) % pp = (x + y) % pp := Nat.mod_add_mod x pp y
theorem addmod_r (x y : Nat) : (x + y % pp) % pp = (x + y) % pp := Nat.add_mod_mod x y pp
theorem rule_mul (a b c : Nat) : a * b * c % pp = c * a % pp * b % pp := by
  rw [mulmod_l]; congr 1; grind
theorem rule_dist (a b c : Nat) : a * ((b + c) % pp) % pp = (a * b % pp + a * c % pp) % pp := by
  rw [mulmod_r, addmod_l, addmod_r, Nat.mul_add]
theorem byte31 (n : Nat) : byteOf (n % pp) 31 < 128 := by
  have h : n % pp < pp := Nat.mod_lt _ (by decide)
  have h2 : n % pp < 256 ^ 31 * 128 := Nat.lt_of_lt_of_le h (by decide)
  have h3 : n % pp / 256 ^ 31 < 128 := by rw [Nat.div_lt_iff_lt_mul (by decide), Nat.mul_comm]; exact h2
  exact Nat.lt_of_le_of_lt (Nat.mod_le _ _) h3

set_option maxRecDepth 20000 in
set_option maxHeartbeats 1000000 in
theorem law6_any (a b c : Nat) (ha : a < 2 ^ 256) (hb : b < 2 ^ 256) (hc : c < 2 ^ 256) (w : World) : Calls Try.prog 6 #[bv a, bv b, bv c] w fun e w' => e = .returned (.bool true) ∧ Below w.heap.size w w' := by
  go_enter Try.func6, Try.ntmps6
  have h := Rep.start (N := 120) [bv a, bv b, bv c] [undef, undef, undef, undef, undef, undef, undef, undef, undef, undef, undef, undef, undef, undef, undef, undef, undef, undef, undef, undef, undef, undef, undef, undef, undef, undef, undef, undef, undef, undef, undef, undef, undef, undef, undef, undef, undef, undef, undef, undef, undef, undef, undef, undef, undef, undef, undef, undef, undef, undef, undef, undef, undef, undef, undef, undef, undef, undef, undef, undef, undef, undef, undef, undef, undef, undef, undef, undef, undef, undef, undef, undef, undef, undef, undef, undef, undef, undef, undef, undef, undef, undef, undef, undef, undef, undef, undef, undef, undef, undef, undef, undef, undef, undef, undef, undef, undef, undef, undef, undef, undef, undef, undef, undef, undef, undef, undef, undef, undef, undef, undef, undef, undef, undef, undef, undef, undef] w rfl
  apply seq_dag hmix h
  case hw =>
    apply Walk.cons
    · exact o_box24 3 rfl rfl rfl
    apply Walk.cons
    · exact o_box24 4 rfl rfl rfl
    apply Walk.cons
    · exact o_box24 5 rfl rfl rfl
    apply Walk.cons
    · exact ok_assign rfl rfl rfl
    exact Walk.nil _
  case hck => kernel_rfl
  case hQ =>
    intro ρ A w1 h
    apply seq_dag hmix h
    case hw =>
      apply Walk.cons
      · exact o_load24 rfl rfl rfl rfl
      apply Walk.cons
      · exact o_load24 rfl rfl rfl rfl
      apply Walk.cons
      · exact o_load24 rfl rfl rfl rfl
      apply Walk.cons
      · exact o_lit3 14 rfl rfl rfl rfl rfl rfl
      apply Walk.cons
      · exact o_add3 rfl rfl rfl rfl (by first | assumption | exact pp_lt _ | exact subP_lt _ _ | exact powP_lt _ _ | decide +kernel) (by first | assumption | exact pp_lt _ | exact subP_lt _ _ | exact powP_lt _ _ | decide +kernel) (by first | assumption | exact pp_lt _ | exact subP_lt _ _ | exact powP_lt _ _ | decide +kernel)
      apply Walk.cons
      · exact o_load24 rfl rfl rfl rfl
      apply Walk.cons
      · exact o_load24 rfl rfl rfl rfl
      apply Walk.cons
      · exact o_lit2 18 rfl rfl rfl rfl rfl
      apply Walk.cons
      · exact o_add2 rfl rfl rfl rfl (by first | assumption | exact pp_lt _ | exact subP_lt _ _ | exact powP_lt _ _ | decide +kernel) (by first | assumption | exact pp_lt _ | exact subP_lt _ _ | exact powP_lt _ _ | decide +kernel)
      apply Walk.cons
      · exact o_load24 rfl rfl rfl rfl
      apply Walk.cons
      · exact o_lit2 21 rfl rfl rfl rfl rfl
      apply Walk.cons
      · exact o_add2 rfl rfl rfl rfl (by first | assumption | exact pp_lt _ | exact subP_lt _ _ | exact powP_lt _ _ | decide +kernel) (by first | assumption | exact pp_lt _ | exact subP_lt _ _ | exact powP_lt _ _ | decide +kernel)
      apply Walk.cons
      · exact o_eql24 rfl rfl rfl rfl (by first | assumption | exact pp_lt _ | exact subP_lt _ _ | exact powP_lt _ _ | decide +kernel) (by first | assumption | exact pp_lt _ | exact subP_lt _ _ | exact powP_lt _ _ | decide +kernel) (decide_eq_true (rule_add a b c))
      apply Walk.cons
      · exact ok_move rfl rfl rfl
      apply Walk.cons
      · exact o_load24 rfl rfl rfl rfl
      apply Walk.cons
      · exact o_load24 rfl rfl rfl rfl
      apply Walk.cons
      · exact o_sub rfl rfl rfl (by first | assumption | exact pp_lt _ | exact subP_lt _ _ | exact powP_lt _ _ | decide +kernel) (by first | assumption | exact pp_lt _ | exact subP_lt _ _ | exact powP_lt _ _ | decide +kernel)
      apply Walk.cons
      · exact o_load24 rfl rfl rfl rfl
      apply Walk.cons
      · exact o_lit2 29 rfl rfl rfl rfl rfl
      apply Walk.cons
      · exact o_add2 rfl rfl rfl rfl (by first | assumption | exact pp_lt _ | exact subP_lt _ _ | exact powP_lt _ _ | decide +kernel) (by first | assumption | exact pp_lt _ | exact subP_lt _ _ | exact powP_lt _ _ | decide +kernel)
      apply Walk.cons
      · exact o_load24 rfl rfl rfl rfl
      apply Walk.cons
      · exact o_canon rfl rfl rfl (by first | assumption | exact pp_lt _ | exact subP_lt _ _ | exact powP_lt _ _ | decide +kernel)
      apply Walk.cons
      · exact o_eql24 rfl rfl rfl rfl (by first | assumption | exact pp_lt _ | exact subP_lt _ _ | exact powP_lt _ _ | decide +kernel) (by first | assumption | exact pp_lt _ | exact subP_lt _ _ | exact powP_lt _ _ | decide +kernel) (decide_eq_true (rule_sub a b))
      apply Walk.cons
      · exact ok_pick_true rfl rfl rfl rfl
      apply Walk.cons
      · exact ok_move rfl rfl rfl
      apply Walk.cons
      · exact o_load24 rfl rfl rfl rfl
      apply Walk.cons
      · exact o_load24 rfl rfl rfl rfl
      apply Walk.cons
      · exact o_sub rfl rfl rfl (by first | assumption | exact pp_lt _ | exact subP_lt _ _ | exact powP_lt _ _ | decide +kernel) (by first | assumption | exact pp_lt _ | exact subP_lt _ _ | exact powP_lt _ _ | decide +kernel)
      apply Walk.cons
      · exact o_built rfl rfl (by kernel_rfl) (v := bv 0) (fun w => by kernel_rfl)
      apply Walk.cons
      · exact o_eql24 rfl rfl rfl rfl (by first | assumption | exact pp_lt _ | exact subP_lt _ _ | exact powP_lt _ _ | decide +kernel) (by first | assumption | exact pp_lt _ | exact subP_lt _ _ | exact powP_lt _ _ | decide +kernel) (decide_eq_true (rule_sub0 a))
      apply Walk.cons
      · exact ok_pick_true rfl rfl rfl rfl
      apply Walk.cons
      · exact ok_assign rfl rfl rfl
      exact Walk.nil _
    case hck => kernel_rfl
    case hQ =>
      intro ρ A w1 h
      apply seq_dag hmix h
      case hw =>
        apply Walk.cons
        · exact o_load24 rfl rfl rfl rfl
        apply Walk.cons
        · exact o_load24 rfl rfl rfl rfl
        apply Walk.cons
        · exact o_load24 rfl rfl rfl rfl
        apply Walk.cons
        · exact o_lit3 45 rfl rfl rfl rfl rfl rfl
        apply Walk.cons
        · exact o_mul3 rfl rfl rfl rfl (by first | assumption | exact pp_lt _ | exact subP_lt _ _ | exact powP_lt _ _ | decide +kernel) (by first | assumption | exact pp_lt _ | exact subP_lt _ _ | exact powP_lt _ _ | decide +kernel) (by first | assumption | exact pp_lt _ | exact subP_lt _ _ | exact powP_lt _ _ | decide +kernel)
        apply Walk.cons
        · exact o_load24 rfl rfl rfl rfl
        apply Walk.cons
        · exact o_load24 rfl rfl rfl rfl
        apply Walk.cons
        · exact o_lit2 49 rfl rfl rfl rfl rfl
        apply Walk.cons
        · exact o_mul2 rfl rfl rfl rfl (by first | assumption | exact pp_lt _ | exact subP_lt _ _ | exact powP_lt _ _ | decide +kernel) (by first | assumption | exact pp_lt _ | exact subP_lt _ _ | exact powP_lt _ _ | decide +kernel)
        apply Walk.cons
        · exact o_load24 rfl rfl rfl rfl
        apply Walk.cons
        · exact o_lit2 52 rfl rfl rfl rfl rfl
        apply Walk.cons
        · exact o_mul2 rfl rfl rfl rfl (by first | assumption | exact pp_lt _ | exact subP_lt _ _ | exact powP_lt _ _ | decide +kernel) (by first | assumption | exact pp_lt _ | exact subP_lt _ _ | exact powP_lt _ _ | decide +kernel)
        apply Walk.cons
        · exact o_eql24 rfl rfl rfl rfl (by first | assumption | exact pp_lt _ | exact subP_lt _ _ | exact powP_lt _ _ | decide +kernel) (by first | assumption | exact pp_lt _ | exact subP_lt _ _ | exact powP_lt _ _ | decide +kernel) (decide_eq_true (rule_mul a b c))
        apply Walk.cons
        · exact ok_move rfl rfl rfl
        apply Walk.cons
        · exact o_load24 rfl rfl rfl rfl
        apply Walk.cons
        · exact o_load24 rfl rfl rfl rfl
        apply Walk.cons
        · exact o_load24 rfl rfl rfl rfl
        apply Walk.cons
        · exact o_lit2 59 rfl rfl rfl rfl rfl
        apply Walk.cons
        · exact o_add2 rfl rfl rfl rfl (by first | assumption | exact pp_lt _ | exact subP_lt _ _ | exact powP_lt _ _ | decide +kernel) (by first | assumption | exact pp_lt _ | exact subP_lt _ _ | exact powP_lt _ _ | decide +kernel)
        apply Walk.cons
        · exact o_lit2 61 rfl rfl rfl rfl rfl
        apply Walk.cons
        · exact o_mul2 rfl rfl rfl rfl (by first | assumption | exact pp_lt _ | exact subP_lt _ _ | exact powP_lt _ _ | decide +kernel) (by first | assumption | exact pp_lt _ | exact subP_lt _ _ | exact powP_lt _ _ | decide +kernel)
        apply Walk.cons
        · exact o_load24 rfl rfl rfl rfl
        apply Walk.cons
        · exact o_load24 rfl rfl rfl rfl
        apply Walk.cons
        · exact o_lit2 65 rfl rfl rfl rfl rfl
        apply Walk.cons
        · exact o_mul2 rfl rfl rfl rfl (by first | assumption | exact pp_lt _ | exact subP_lt _ _ | exact powP_lt _ _ | decide +kernel) (by first | assumption | exact pp_lt _ | exact subP_lt _ _ | exact powP_lt _ _ | decide +kernel)
        apply Walk.cons
        · exact o_load24 rfl rfl rfl rfl
        apply Walk.cons
        · exact o_load24 rfl rfl rfl rfl
        apply Walk.cons
        · exact o_lit2 69 rfl rfl rfl rfl rfl
        apply Walk.cons
        · exact o_mul2 rfl rfl rfl rfl (by first | assumption | exact pp_lt _ | exact subP_lt _ _ | exact powP_lt _ _ | decide +kernel) (by first | assumption | exact pp_lt _ | exact subP_lt _ _ | exact powP_lt _ _ | decide +kernel)
        apply Walk.cons
        · exact o_lit2 71 rfl rfl rfl rfl rfl
        apply Walk.cons
        · exact o_add2 rfl rfl rfl rfl (by first | assumption | exact pp_lt _ | exact subP_lt _ _ | exact powP_lt _ _ | decide +kernel) (by first | assumption | exact pp_lt _ | exact subP_lt _ _ | exact powP_lt _ _ | decide +kernel)
        apply Walk.cons
        · exact o_eql24 rfl rfl rfl rfl (by first | assumption | exact pp_lt _ | exact subP_lt _ _ | exact powP_lt _ _ | decide +kernel) (by first | assumption | exact pp_lt _ | exact subP_lt _ _ | exact powP_lt _ _ | decide +kernel) (decide_eq_true (rule_dist a b c))
        apply Walk.cons
        · exact ok_pick_true rfl rfl rfl rfl
        apply Walk.cons
        · exact ok_assign rfl rfl rfl
        exact Walk.nil _
      case hck => kernel_rfl
      case hQ =>
        intro ρ A w1 h
        apply seq_dag hmix h
        case hw =>
          apply Walk.cons
          · exact o_load24 rfl rfl rfl rfl
          apply Walk.cons
          · exact o_load24 rfl rfl rfl rfl
          apply Walk.cons
          · exact o_lit2 77 rfl rfl rfl rfl rfl
          apply Walk.cons
          · exact o_mul2 rfl rfl rfl rfl (by first | assumption | exact pp_lt _ | exact subP_lt _ _ | exact powP_lt _ _ | decide +kernel) (by first | assumption | exact pp_lt _ | exact subP_lt _ _ | exact powP_lt _ _ | decide +kernel)
          apply Walk.cons
          · exact o_alloc24 9 rfl rfl
          apply Walk.cons
          · exact o_store24 rfl rfl rfl rfl rfl
          exact Walk.nil _
        case hck => kernel_rfl
        case hQ =>
          intro ρ A w1 h
          apply seq_dag hmix h
          case hw =>
            apply Walk.cons
            · exact o_load24 rfl rfl rfl rfl
            apply Walk.cons
            · exact o_canon rfl rfl rfl (by first | assumption | exact pp_lt _ | exact subP_lt _ _ | exact powP_lt _ _ | decide +kernel)
            apply Walk.cons
            · exact o_load24 rfl rfl rfl rfl
            apply Walk.cons
            · exact o_eql24 rfl rfl rfl rfl (by first | assumption | exact pp_lt _ | exact subP_lt _ _ | exact powP_lt _ _ | decide +kernel) (by first | assumption | exact pp_lt _ | exact subP_lt _ _ | exact powP_lt _ _ | decide +kernel) (decide_eq_true (Nat.mod_mod _ _))
            apply Walk.cons
            · exact ok_move rfl rfl rfl
            apply Walk.cons
            · exact o_at24 rfl rfl rfl rfl (by decide)
            apply Walk.cons
            · exact o_load5 rfl rfl rfl rfl (by decide)
            apply Walk.cons
            · exact o_bin rfl rfl rfl rfl (r_lss (a := byteOf (a * b % pp) 31) (b := 128) (decide_eq_true (byte31 (a * b))))
            apply Walk.cons
            · exact ok_pick_true rfl rfl rfl rfl
            apply Walk.cons
            · exact ok_move rfl rfl rfl
            apply Walk.cons
            · exact o_load24 rfl rfl rfl rfl
            apply Walk.cons
            · exact o_load24 rfl rfl rfl rfl
            apply Walk.cons
            · exact o_canon rfl rfl rfl (by first | assumption | exact pp_lt _ | exact subP_lt _ _ | exact powP_lt _ _ | decide +kernel)
            apply Walk.cons
            · exact o_same rfl rfl rfl (by first | assumption | exact pp_lt _ | exact subP_lt _ _ | exact powP_lt _ _ | decide +kernel) (by first | assumption | exact pp_lt _ | exact subP_lt _ _ | exact powP_lt _ _ | decide +kernel) (decide_eq_true (Nat.mod_mod a pp).symm)
            apply Walk.cons
            · exact ok_pick_true rfl rfl rfl rfl
            apply Walk.cons
            · exact ok_move rfl rfl rfl
            apply Walk.cons
            · exact o_load24 rfl rfl rfl rfl
            apply Walk.cons
            · exact o_lit1 96 rfl rfl rfl rfl
            apply Walk.cons
            · exact o_add1 rfl rfl rfl rfl (by first | assumption | exact pp_lt _ | exact subP_lt _ _ | exact powP_lt _ _ | decide +kernel)
            apply Walk.cons
            · exact o_load24 rfl rfl rfl rfl
            apply Walk.cons
            · exact o_canon rfl rfl rfl (by first | assumption | exact pp_lt _ | exact subP_lt _ _ | exact powP_lt _ _ | decide +kernel)
            apply Walk.cons
            · exact o_eql24 rfl rfl rfl rfl (by first | assumption | exact pp_lt _ | exact subP_lt _ _ | exact powP_lt _ _ | decide +kernel) (by first | assumption | exact pp_lt _ | exact subP_lt _ _ | exact powP_lt _ _ | decide +kernel) (decide_eq_true rfl)
            apply Walk.cons
            · exact ok_pick_true rfl rfl rfl rfl
            apply Walk.cons
            · exact ok_move rfl rfl rfl
            apply Walk.cons
            · exact o_load24 rfl rfl rfl rfl
            apply Walk.cons
            · exact o_lit1 104 rfl rfl rfl rfl
            apply Walk.cons
            · exact o_mul1 rfl rfl rfl rfl (by first | assumption | exact pp_lt _ | exact subP_lt _ _ | exact powP_lt _ _ | decide +kernel)
            apply Walk.cons
            · exact o_load24 rfl rfl rfl rfl
            apply Walk.cons
            · exact o_canon rfl rfl rfl (by first | assumption | exact pp_lt _ | exact subP_lt _ _ | exact powP_lt _ _ | decide +kernel)
            apply Walk.cons
            · exact o_eql24 rfl rfl rfl rfl (by first | assumption | exact pp_lt _ | exact subP_lt _ _ | exact powP_lt _ _ | decide +kernel) (by first | assumption | exact pp_lt _ | exact subP_lt _ _ | exact powP_lt _ _ | decide +kernel) (decide_eq_true rfl)
            apply Walk.cons
            · exact ok_pick_true rfl rfl rfl rfl
            apply Walk.cons
            · exact ok_assign rfl rfl rfl
            exact Walk.nil _
          case hck => kernel_rfl
          case hQ =>
            intro ρ A w1 h
            apply seq_dag hmix h
            case hw =>
              apply Walk.cons
              · exact ok_move rfl rfl rfl
              apply Walk.cons
              · exact ok_move rfl rfl rfl
              apply Walk.cons
              · exact ok_move rfl rfl rfl
              apply Walk.cons
              · exact ok_pick_true rfl rfl rfl rfl
              apply Walk.cons
              · exact ok_move rfl rfl rfl
              apply Walk.cons
              · exact ok_move rfl rfl rfl
              apply Walk.cons
              · exact ok_pick_true rfl rfl rfl rfl
              apply Walk.cons
              · exact ok_move rfl rfl rfl
              apply Walk.cons
              · exact ok_call_val rfl rfl fn20 [] rfl (rd := []) (fun ρ w _ _ => awake_any w)
              apply Walk.cons
              · exact ok_pick_true rfl rfl rfl rfl
              apply Walk.cons
              · exact ok_assign rfl rfl rfl
              exact Walk.nil _
            case hck => kernel_rfl
            case hQ =>
              intro ρ A w1 h
              refine wp_ret ?_
              exact h.result_tmp Try.results6 rfl ⟨rfl, h.below⟩
end Go.Proofs.Ytnbdeajjfhlmnaa
