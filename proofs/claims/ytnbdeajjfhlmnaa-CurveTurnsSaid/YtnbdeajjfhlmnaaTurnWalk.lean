/-
  aditlaw02.CurveTurns: what it hands back is true, for any three numbers of 32 bytes.
-/
import Derived.Test.YtnbdeajjfhlmnaaTurns
namespace Go.Proofs.Ytnbdeajjfhlmnaa
open Go.RowKit
attribute [local irreducible] pp timesP
set_option maxRecDepth 20000 in
theorem law10_any (a b c : Nat) (ha : a < 2 ^ 256) (hb : b < 2 ^ 256) (hc : c < 2 ^ 256) (w : World) : Calls Try.prog 10 #[bv a, bv b, bv c] w fun e w' => e = .returned (.bool true) ∧ Below w.heap.size w w' := by
  have ht := turns a b c
  go_enter Try.func10, Try.ntmps10
  have h := Rep.start (N := 21) [bv a, bv b, bv c] [undef, undef, undef, undef, undef, undef, undef, undef, undef, undef, undef, undef, undef, undef, undef, undef, undef, undef] w rfl
  apply seq_dag hmix h
  case hw =>
    apply Walk.cons
    · exact o_box24 3 rfl rfl rfl
    apply Walk.cons
    · exact o_box24 4 rfl rfl rfl
    apply Walk.cons
    · exact o_box24 5 rfl rfl rfl
    apply Walk.cons
    · exact ok_assign rfl rfl rfl
    exact Walk.nil _
  case hck => kernel_rfl
  case hQ =>
    intro ρ A w1 h
    apply seq_dag hmix h
    case hw =>
      apply Walk.cons
      · exact o_load24 rfl rfl rfl rfl
      apply Walk.cons
      · exact o_load24 rfl rfl rfl rfl
      apply Walk.cons
      · exact o_load24 rfl rfl rfl rfl
      apply Walk.cons
      · exact o_times33 rfl rfl rfl (by first | assumption | exact timesP_lt _ _) (by first | assumption | exact timesP_lt _ _)
      apply Walk.cons
      · exact o_times33 rfl rfl rfl (by first | assumption | exact timesP_lt _ _) (by first | assumption | exact timesP_lt _ _)
      apply Walk.cons
      · exact o_load24 rfl rfl rfl rfl
      apply Walk.cons
      · exact o_load24 rfl rfl rfl rfl
      apply Walk.cons
      · exact o_load24 rfl rfl rfl rfl
      apply Walk.cons
      · exact o_times33 rfl rfl rfl (by first | assumption | exact timesP_lt _ _) (by first | assumption | exact timesP_lt _ _)
      apply Walk.cons
      · exact o_times33 rfl rfl rfl (by first | assumption | exact timesP_lt _ _) (by first | assumption | exact timesP_lt _ _)
      apply Walk.cons
      · exact o_eql24 rfl rfl rfl rfl (timesP_lt _ _) (timesP_lt _ _) (decide_eq_true ht)
      apply Walk.cons
      · exact ok_move rfl rfl rfl
      apply Walk.cons
      · exact ok_call_val rfl rfl fn34 [] rfl (rd := []) (fun ρ w _ _ => awake34_any w)
      apply Walk.cons
      · exact ok_pick_true rfl rfl rfl rfl
      apply Walk.cons
      · exact ok_assign rfl rfl rfl
      exact Walk.nil _
    case hck => kernel_rfl
    case hQ =>
      intro ρ A w1 h
      refine wp_ret ?_
      exact h.result_tmp Try.results10 rfl ⟨rfl, h.below⟩
end Go.Proofs.Ytnbdeajjfhlmnaa
