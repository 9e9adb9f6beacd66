/-
  aditlaw01.FieldTwo: what it hands back is true, for any two numbers of 32 bytes.
-/
import Derived.Test.YtnbdeajjfhlmnaaRefSub
namespace Go.Proofs.Ytnbdeajjfhlmnaa
open Go.RowKit

set_option maxRecDepth 20000 in
set_option maxHeartbeats 1000000 in
theorem law5_any (a b : Nat) (ha : a < 2 ^ 256) (hb : b < 2 ^ 256) (w : World) : Calls Try.prog 5 #[bv a, bv b] w fun e w' => e = .returned (.bool true) ∧ Below w.heap.size w w' := by
  by_cases hab : a % pp = b % pp
  · go_enter Try.func5, Try.ntmps5
    have h := Rep.start (N := 33) [bv a, bv b] [undef, undef, undef, undef, undef, undef, undef, undef, undef, undef, undef, undef, undef, undef, undef, undef, undef, undef, undef, undef, undef, undef, undef, undef, undef, undef, undef, undef, undef, undef, undef] w rfl
    apply seq_dag hmix h
    case hw =>
      apply Walk.cons
      · exact o_box24 2 rfl rfl rfl
      apply Walk.cons
      · exact o_box24 3 rfl rfl rfl
      apply Walk.cons
      · exact ok_assign rfl rfl rfl
      exact Walk.nil _
    case hck => kernel_rfl
    case hQ =>
      intro ρ A w1 h
      apply seq_dag hmix h
      case hw =>
        apply Walk.cons
        · exact o_load24 rfl rfl rfl rfl
        apply Walk.cons
        · exact o_canon rfl rfl rfl (by first | assumption | exact pp_lt _ | exact subP_lt _ _ | exact powP_lt _ _ | decide +kernel)
        apply Walk.cons
        · exact o_load24 rfl rfl rfl rfl
        apply Walk.cons
        · exact o_canon24 rfl rfl rfl (by first | assumption | exact pp_lt _ | exact subP_lt _ _ | exact powP_lt _ _ | decide +kernel)
        apply Walk.cons
        · exact o_eql24 rfl rfl rfl rfl (by first | assumption | exact pp_lt _ | exact subP_lt _ _ | exact powP_lt _ _ | decide +kernel) (by first | assumption | exact pp_lt _ | exact subP_lt _ _ | exact powP_lt _ _ | decide +kernel) (decide_eq_true rfl)
        apply Walk.cons
        · exact ok_move rfl rfl rfl
        apply Walk.cons
        · exact o_load24 rfl rfl rfl rfl
        apply Walk.cons
        · exact o_load24 rfl rfl rfl rfl
        apply Walk.cons
        · exact o_sub rfl rfl rfl (by first | assumption | exact pp_lt _ | exact subP_lt _ _ | exact powP_lt _ _ | decide +kernel) (by first | assumption | exact pp_lt _ | exact subP_lt _ _ | exact powP_lt _ _ | decide +kernel)
        apply Walk.cons
        · exact o_load24 rfl rfl rfl rfl
        apply Walk.cons
        · exact o_load24 rfl rfl rfl rfl
        apply Walk.cons
        · exact o_sub26 rfl rfl rfl (by first | assumption | exact pp_lt _ | exact subP_lt _ _ | exact powP_lt _ _ | decide +kernel) (by first | assumption | exact pp_lt _ | exact subP_lt _ _ | exact powP_lt _ _ | decide +kernel)
        apply Walk.cons
        · exact o_eql24 rfl rfl rfl rfl (by first | assumption | exact pp_lt _ | exact subP_lt _ _ | exact powP_lt _ _ | decide +kernel) (by first | assumption | exact pp_lt _ | exact subP_lt _ _ | exact powP_lt _ _ | decide +kernel) (decide_eq_true rfl)
        apply Walk.cons
        · exact ok_pick_true rfl rfl rfl rfl
        apply Walk.cons
        · exact ok_move rfl rfl rfl
        apply Walk.cons
        · exact o_load24 rfl rfl rfl rfl
        apply Walk.cons
        · exact o_load24 rfl rfl rfl rfl
        apply Walk.cons
        · exact o_same rfl rfl rfl (by first | assumption | exact pp_lt _ | exact subP_lt _ _ | exact powP_lt _ _ | decide +kernel) (by first | assumption | exact pp_lt _ | exact subP_lt _ _ | exact powP_lt _ _ | decide +kernel) (decide_eq_true hab)
        apply Walk.cons
        · exact o_load24 rfl rfl rfl rfl
        apply Walk.cons
        · exact o_canon24 rfl rfl rfl (by first | assumption | exact pp_lt _ | exact subP_lt _ _ | exact powP_lt _ _ | decide +kernel)
        apply Walk.cons
        · exact o_load24 rfl rfl rfl rfl
        apply Walk.cons
        · exact o_canon24 rfl rfl rfl (by first | assumption | exact pp_lt _ | exact subP_lt _ _ | exact powP_lt _ _ | decide +kernel)
        apply Walk.cons
        · exact o_eql24 rfl rfl rfl rfl (by first | assumption | exact pp_lt _ | exact subP_lt _ _ | exact powP_lt _ _ | decide +kernel) (by first | assumption | exact pp_lt _ | exact subP_lt _ _ | exact powP_lt _ _ | decide +kernel) (decide_eq_true hab)
        apply Walk.cons
        · exact ok_pure rfl (by kernel_rfl) (v := .bool true) (fun w => by kernel_rfl)
        apply Walk.cons
        · exact ok_pick_true rfl rfl rfl rfl
        apply Walk.cons
        · exact ok_move rfl rfl rfl
        apply Walk.cons
        · exact ok_call_val rfl rfl fn20 [] rfl (rd := []) (fun ρ w _ _ => awake_any w)
        apply Walk.cons
        · exact ok_pick_true rfl rfl rfl rfl
        apply Walk.cons
        · exact ok_assign rfl rfl rfl
        exact Walk.nil _
      case hck => kernel_rfl
      case hQ =>
        intro ρ A w1 h
        refine wp_ret ?_
        exact h.result_tmp Try.results5 rfl ⟨rfl, h.below⟩
  · go_enter Try.func5, Try.ntmps5
    have h := Rep.start (N := 33) [bv a, bv b] [undef, undef, undef, undef, undef, undef, undef, undef, undef, undef, undef, undef, undef, undef, undef, undef, undef, undef, undef, undef, undef, undef, undef, undef, undef, undef, undef, undef, undef, undef, undef] w rfl
    apply seq_dag hmix h
    case hw =>
      apply Walk.cons
      · exact o_box24 2 rfl rfl rfl
      apply Walk.cons
      · exact o_box24 3 rfl rfl rfl
      apply Walk.cons
      · exact ok_assign rfl rfl rfl
      exact Walk.nil _
    case hck => kernel_rfl
    case hQ =>
      intro ρ A w1 h
      apply seq_dag hmix h
      case hw =>
        apply Walk.cons
        · exact o_load24 rfl rfl rfl rfl
        apply Walk.cons
        · exact o_canon rfl rfl rfl (by first | assumption | exact pp_lt _ | exact subP_lt _ _ | exact powP_lt _ _ | decide +kernel)
        apply Walk.cons
        · exact o_load24 rfl rfl rfl rfl
        apply Walk.cons
        · exact o_canon24 rfl rfl rfl (by first | assumption | exact pp_lt _ | exact subP_lt _ _ | exact powP_lt _ _ | decide +kernel)
        apply Walk.cons
        · exact o_eql24 rfl rfl rfl rfl (by first | assumption | exact pp_lt _ | exact subP_lt _ _ | exact powP_lt _ _ | decide +kernel) (by first | assumption | exact pp_lt _ | exact subP_lt _ _ | exact powP_lt _ _ | decide +kernel) (decide_eq_true rfl)
        apply Walk.cons
        · exact ok_move rfl rfl rfl
        apply Walk.cons
        · exact o_load24 rfl rfl rfl rfl
        apply Walk.cons
        · exact o_load24 rfl rfl rfl rfl
        apply Walk.cons
        · exact o_sub rfl rfl rfl (by first | assumption | exact pp_lt _ | exact subP_lt _ _ | exact powP_lt _ _ | decide +kernel) (by first | assumption | exact pp_lt _ | exact subP_lt _ _ | exact powP_lt _ _ | decide +kernel)
        apply Walk.cons
        · exact o_load24 rfl rfl rfl rfl
        apply Walk.cons
        · exact o_load24 rfl rfl rfl rfl
        apply Walk.cons
        · exact o_sub26 rfl rfl rfl (by first | assumption | exact pp_lt _ | exact subP_lt _ _ | exact powP_lt _ _ | decide +kernel) (by first | assumption | exact pp_lt _ | exact subP_lt _ _ | exact powP_lt _ _ | decide +kernel)
        apply Walk.cons
        · exact o_eql24 rfl rfl rfl rfl (by first | assumption | exact pp_lt _ | exact subP_lt _ _ | exact powP_lt _ _ | decide +kernel) (by first | assumption | exact pp_lt _ | exact subP_lt _ _ | exact powP_lt _ _ | decide +kernel) (decide_eq_true rfl)
        apply Walk.cons
        · exact ok_pick_true rfl rfl rfl rfl
        apply Walk.cons
        · exact ok_move rfl rfl rfl
        apply Walk.cons
        · exact o_load24 rfl rfl rfl rfl
        apply Walk.cons
        · exact o_load24 rfl rfl rfl rfl
        apply Walk.cons
        · exact o_same rfl rfl rfl (by first | assumption | exact pp_lt _ | exact subP_lt _ _ | exact powP_lt _ _ | decide +kernel) (by first | assumption | exact pp_lt _ | exact subP_lt _ _ | exact powP_lt _ _ | decide +kernel) (decide_eq_false hab)
        apply Walk.cons
        · exact o_load24 rfl rfl rfl rfl
        apply Walk.cons
        · exact o_canon24 rfl rfl rfl (by first | assumption | exact pp_lt _ | exact subP_lt _ _ | exact powP_lt _ _ | decide +kernel)
        apply Walk.cons
        · exact o_load24 rfl rfl rfl rfl
        apply Walk.cons
        · exact o_canon24 rfl rfl rfl (by first | assumption | exact pp_lt _ | exact subP_lt _ _ | exact powP_lt _ _ | decide +kernel)
        apply Walk.cons
        · exact o_eql24 rfl rfl rfl rfl (by first | assumption | exact pp_lt _ | exact subP_lt _ _ | exact powP_lt _ _ | decide +kernel) (by first | assumption | exact pp_lt _ | exact subP_lt _ _ | exact powP_lt _ _ | decide +kernel) (decide_eq_false hab)
        apply Walk.cons
        · exact ok_pure rfl (by kernel_rfl) (v := .bool true) (fun w => by kernel_rfl)
        apply Walk.cons
        · exact ok_pick_true rfl rfl rfl rfl
        apply Walk.cons
        · exact ok_move rfl rfl rfl
        apply Walk.cons
        · exact ok_call_val rfl rfl fn20 [] rfl (rd := []) (fun ρ w _ _ => awake_any w)
        apply Walk.cons
        · exact ok_pick_true rfl rfl rfl rfl
        apply Walk.cons
        · exact ok_assign rfl rfl rfl
        exact Walk.nil _
      case hck => kernel_rfl
      case hQ =>
        intro ρ A w1 h
        refine wp_ret ?_
        exact h.result_tmp Try.results5 rfl ⟨rfl, h.below⟩
end Go.Proofs.Ytnbdeajjfhlmnaa
