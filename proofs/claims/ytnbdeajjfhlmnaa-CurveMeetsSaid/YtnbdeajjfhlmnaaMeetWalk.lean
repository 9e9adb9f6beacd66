/-
  aditlaw02.CurveMeets: what it hands back is true, for any two numbers of 32 bytes.
-/
import Derived.Test.YtnbdeajjfhlmnaaOrder
import Derived.Test.YtnbdeajjfhlmnaaRef02
namespace Go.Proofs.Ytnbdeajjfhlmnaa
open Go.RowKit
attribute [local irreducible] pp timesP
theorem meet36 (a b : Nat) (ha : a < 2 ^ 256) (w : World) : Calls Try.prog 36 #[bv a, bv (timesP b 9)] w fun e w' => e = .returned (.tuple #[bv (timesP a (timesP b 9)), .bool true]) ∧ Below w.heap.size w w' := by
  have h := shared36_any a (timesP b 9) ha (timesP_lt _ _) w
  rwa [decide_eq_true (meet_ne a b)] at h
set_option maxRecDepth 20000 in
theorem law13_any (a b : Nat) (ha : a < 2 ^ 256) (hb : b < 2 ^ 256) (w : World) : Calls Try.prog 13 #[bv a, bv b] w fun e w' => e = .returned (.bool true) ∧ Below w.heap.size w w' := by
  have ht := turns a b 9
  go_enter Try.func13, Try.ntmps13
  have h := Rep.start (N := 35) [bv a, bv b] [undef, undef, undef, undef, undef, undef, undef, undef, undef, undef, undef, undef, undef, undef, undef, undef, undef, undef, undef, undef, undef, undef, undef, undef, undef, undef, undef, undef, undef, undef, undef, undef, undef] w rfl
  apply seq_dag hmix h
  case hw =>
    apply Walk.cons
    · exact o_box24 2 rfl rfl rfl
    apply Walk.cons
    · exact o_box24 3 rfl rfl rfl
    apply Walk.cons
    · exact ok_assign rfl rfl rfl
    exact Walk.nil _
  case hck => kernel_rfl
  case hQ =>
    intro ρ A w1 h
    apply seq_dag hmix h
    case hw =>
      apply Walk.cons
      · exact o_load24 rfl rfl rfl rfl
      apply Walk.cons
      · exact o_load24 rfl rfl rfl rfl
      apply Walk.cons
      · exact o_public39 rfl rfl rfl (by first | assumption | exact timesP_lt _ _)
      apply Walk.cons
      · exact ok_call_val rfl rfl fn36 [.v _, .v _] rfl (rd := []) (fun ρ w _ _ => meet36 a b ha w)
      apply Walk.cons
      · exact ok_move rfl rfl rfl
      apply Walk.cons
      · exact o_extract rfl rfl rfl rfl
      apply Walk.cons
      · exact o_extract rfl rfl rfl rfl
      apply Walk.cons
      · exact o_alloc24 5 rfl rfl
      apply Walk.cons
      · exact o_store24 rfl rfl rfl rfl rfl
      apply Walk.cons
      · exact ok_assign rfl rfl rfl
      exact Walk.nil _
    case hck => kernel_rfl
    case hQ =>
      intro ρ A w1 h
      apply seq_dag hmix h
      case hw =>
        apply Walk.cons
        · exact o_load24 rfl rfl rfl rfl
        apply Walk.cons
        · exact o_load24 rfl rfl rfl rfl
        apply Walk.cons
        · exact o_public39 rfl rfl rfl (by first | assumption | exact timesP_lt _ _)
        apply Walk.cons
        · exact ok_call_val rfl rfl fn36 [.v _, .v _] rfl (rd := []) (fun ρ w _ _ => meet36 b a hb w)
        apply Walk.cons
        · exact ok_move rfl rfl rfl
        apply Walk.cons
        · exact o_extract rfl rfl rfl rfl
        apply Walk.cons
        · exact o_extract rfl rfl rfl rfl
        apply Walk.cons
        · exact o_alloc24 7 rfl rfl
        apply Walk.cons
        · exact o_store24 rfl rfl rfl rfl rfl
        apply Walk.cons
        · exact ok_assign rfl rfl rfl
        exact Walk.nil _
      case hck => kernel_rfl
      case hQ =>
        intro ρ A w1 h
        apply seq_dag hmix h
        case hw =>
          apply Walk.cons
          · exact o_load24 rfl rfl rfl rfl
          apply Walk.cons
          · exact o_load24 rfl rfl rfl rfl
          apply Walk.cons
          · exact o_eql24 rfl rfl rfl rfl (timesP_lt _ _) (timesP_lt _ _) (decide_eq_true ht)
          apply Walk.cons
          · exact ok_move rfl rfl rfl
          apply Walk.cons
          · exact ok_move rfl rfl rfl
          apply Walk.cons
          · exact ok_pick_true rfl rfl rfl rfl
          apply Walk.cons
          · exact ok_move rfl rfl rfl
          apply Walk.cons
          · exact ok_move rfl rfl rfl
          apply Walk.cons
          · exact ok_pick_true rfl rfl rfl rfl
          apply Walk.cons
          · exact ok_move rfl rfl rfl
          apply Walk.cons
          · exact ok_call_val rfl rfl fn34 [] rfl (rd := []) (fun ρ w _ _ => awake34_any w)
          apply Walk.cons
          · exact ok_pick_true rfl rfl rfl rfl
          apply Walk.cons
          · exact ok_assign rfl rfl rfl
          exact Walk.nil _
        case hck => kernel_rfl
        case hQ =>
          intro ρ A w1 h
          refine wp_ret ?_
          exact h.result_tmp Try.results13 rfl ⟨rfl, h.below⟩
end Go.Proofs.Ytnbdeajjfhlmnaa
