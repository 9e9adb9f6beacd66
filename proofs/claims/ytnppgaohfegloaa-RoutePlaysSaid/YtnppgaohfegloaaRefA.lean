/-
  The document's own functions on prefixes: may one be; which stands ahead.
-/
import Derived.Test.YtnppgaohfegloaaAll23
namespace Go.Proofs.Ytnppgaohfegloaa
open Go.RowKit

theorem isPfx_def (v : Bool) (n : Nat) (b : Int) (c : Bool) (h : (validA v n && (decide (b ≥ 0) && (decide (b ≤ 32) || (v && decide (b ≤ 128))))) = c) : isPfx v n b = c := by
  rw [← h, isPfx, mostA]
  cases v
  · simp
  · congr 1
    congr 1
    by_cases h1 : b ≤ 32
    · have h2 : b ≤ 128 := by omega
      simp [h1, h2]
    · simp [h1]
theorem right_a (v : Bool) (n : Nat) (b : Int) (hv : validA v n = false) (w : World) : Calls Try.prog 21 #[.agg (pfc v n b)] w fun e w' => e = .returned (.bool false) ∧ Below w.heap.size w w' := by
  go_enter Try.func21, Try.ntmps21
  have h := Rep.start (N := 28) [.agg (pfc v n b)] [undef, undef, undef, undef, undef, undef, undef, undef, undef, undef, undef, undef, undef, undef, undef, undef, undef, undef, undef, undef, undef, undef, undef, undef, undef, undef, undef] w rfl
  apply seq_dag hmix h
  case hw =>
    apply Walk.cons
    · exact o_box31 1 rfl rfl rfl
    apply Walk.cons
    · exact ok_assign rfl rfl rfl
    exact Walk.nil _
  case hck => kernel_rfl
  case hQ =>
    intro ρ A w1 h
    apply seq_dag hmix h
    case hw =>
      apply Walk.cons
      · first | exact ok_fld rfl rfl rfl fo31_0 rfl | exact ok_fld_v rfl rfl rfl fo31_0 rfl
      apply Walk.cons
      · first | exact o_load24 rfl rfl rfl rfl | exact o_load24p rfl rfl rfl rfl
      apply Walk.cons
      · exact ok_call_val rfl rfl fn29 [.v _] rfl (rd := []) (fun _ w _ _ => hv ▸ rvalid_any _ n w)
      apply Walk.cons
      · exact ok_assign rfl rfl rfl
      exact Walk.nil _
    case hck => kernel_rfl
    case hQ =>
      intro ρ A w1 h
      apply seq_dag hmix h
      case hw =>
        apply Walk.cons
        · exact ok_move rfl rfl rfl
        apply Walk.cons
        · exact ok_move rfl rfl rfl
        apply Walk.cons
        · first | exact ok_skip rfl | exact ok_skip_u rfl | exact ok_fld rfl rfl rfl fo31_1 rfl | exact ok_fld_v rfl rfl rfl fo31_1 rfl
        apply Walk.cons
        · first | exact ok_skip rfl | exact ok_skip_u rfl | exact ok_load_cell rfl rfl rfl rfl one3 rfl
        apply Walk.cons
        · first | exact ok_skip rfl | exact ok_skip_u rfl | exact o_bin rfl rfl rfl rfl (r_geqz rfl)
        apply Walk.cons
        · first | exact ok_pick_true rfl rfl rfl rfl | exact ok_pick_false rfl rfl rfl rfl
        apply Walk.cons
        · exact ok_move rfl rfl rfl
        apply Walk.cons
        · first | exact ok_skip rfl | exact ok_skip_u rfl | exact ok_fld rfl rfl rfl fo31_1 rfl | exact ok_fld_v rfl rfl rfl fo31_1 rfl
        apply Walk.cons
        · first | exact ok_skip rfl | exact ok_skip_u rfl | exact ok_load_cell rfl rfl rfl rfl one3 rfl
        apply Walk.cons
        · first | exact ok_skip rfl | exact ok_skip_u rfl | exact o_bin rfl rfl rfl rfl (r_leqi rfl)
        apply Walk.cons
        · first | exact ok_skip rfl | exact ok_skip_u rfl | exact ok_move rfl rfl rfl
        apply Walk.cons
        · first | exact ok_skip rfl | exact ok_skip_u rfl | exact ok_fld rfl rfl rfl fo31_0 rfl | exact ok_fld_v rfl rfl rfl fo31_0 rfl
        apply Walk.cons
        · first | exact ok_skip rfl | exact ok_skip_u rfl | exact ok_fld rfl rfl rfl fo24_0 rfl | exact ok_fld_v rfl rfl rfl fo24_0 rfl
        apply Walk.cons
        · first | exact ok_skip rfl | exact ok_skip_u rfl | exact ok_load_cell rfl rfl rfl rfl one4 rfl
        apply Walk.cons
        · first | exact ok_skip rfl | exact ok_skip_u rfl | exact ok_move rfl rfl rfl
        apply Walk.cons
        · first | exact ok_skip rfl | exact ok_skip_u rfl | exact ok_fld rfl rfl rfl fo31_1 rfl | exact ok_fld_v rfl rfl rfl fo31_1 rfl
        apply Walk.cons
        · first | exact ok_skip rfl | exact ok_skip_u rfl | exact ok_load_cell rfl rfl rfl rfl one3 rfl
        apply Walk.cons
        · first | exact ok_skip rfl | exact ok_skip_u rfl | exact o_bin rfl rfl rfl rfl (r_leqi rfl)
        apply Walk.cons
        · first | exact ok_skip rfl | exact ok_skip_u rfl | exact ok_pick_true rfl rfl rfl rfl | exact ok_pick_false rfl rfl rfl rfl
        apply Walk.cons
        · first | exact ok_skip rfl | exact ok_skip_u rfl | exact ok_pick_true rfl rfl rfl rfl | exact ok_pick_false rfl rfl rfl rfl
        apply Walk.cons
        · first | exact ok_pick_true rfl rfl rfl rfl | exact ok_pick_false rfl rfl rfl rfl
        apply Walk.cons
        · exact ok_assign rfl rfl rfl
        exact Walk.nil _
      case hck => kernel_rfl
      case hQ =>
        intro ρ A w1 h
        refine wp_ret ?_
        repeat (first | refine Exit.thenRet ?_ | refine Exit.blockRet ?_)
        refine h.result_tmp Try.results21 rfl ?_
        exact ⟨rfl, h.below⟩
theorem right_b (v : Bool) (n : Nat) (b : Int) (hv : validA v n = true) (hb0 : ¬ b ≥ 0) (w : World) : Calls Try.prog 21 #[.agg (pfc v n b)] w fun e w' => e = .returned (.bool false) ∧ Below w.heap.size w w' := by
  go_enter Try.func21, Try.ntmps21
  have h := Rep.start (N := 28) [.agg (pfc v n b)] [undef, undef, undef, undef, undef, undef, undef, undef, undef, undef, undef, undef, undef, undef, undef, undef, undef, undef, undef, undef, undef, undef, undef, undef, undef, undef, undef] w rfl
  apply seq_dag hmix h
  case hw =>
    apply Walk.cons
    · exact o_box31 1 rfl rfl rfl
    apply Walk.cons
    · exact ok_assign rfl rfl rfl
    exact Walk.nil _
  case hck => kernel_rfl
  case hQ =>
    intro ρ A w1 h
    apply seq_dag hmix h
    case hw =>
      apply Walk.cons
      · first | exact ok_fld rfl rfl rfl fo31_0 rfl | exact ok_fld_v rfl rfl rfl fo31_0 rfl
      apply Walk.cons
      · first | exact o_load24 rfl rfl rfl rfl | exact o_load24p rfl rfl rfl rfl
      apply Walk.cons
      · exact ok_call_val rfl rfl fn29 [.v _] rfl (rd := []) (fun _ w _ _ => hv ▸ rvalid_any _ n w)
      apply Walk.cons
      · exact ok_assign rfl rfl rfl
      exact Walk.nil _
    case hck => kernel_rfl
    case hQ =>
      intro ρ A w1 h
      apply seq_dag hmix h
      case hw =>
        apply Walk.cons
        · exact ok_move rfl rfl rfl
        apply Walk.cons
        · exact ok_move rfl rfl rfl
        apply Walk.cons
        · first | exact ok_skip rfl | exact ok_skip_u rfl | exact ok_fld rfl rfl rfl fo31_1 rfl | exact ok_fld_v rfl rfl rfl fo31_1 rfl
        apply Walk.cons
        · first | exact ok_skip rfl | exact ok_skip_u rfl | exact ok_load_cell rfl rfl rfl rfl one3 rfl
        apply Walk.cons
        · first | exact ok_skip rfl | exact ok_skip_u rfl | exact o_bin rfl rfl rfl rfl (r_geqz (decide_eq_false hb0))
        apply Walk.cons
        · first | exact ok_pick_true rfl rfl rfl rfl | exact ok_pick_false rfl rfl rfl rfl
        apply Walk.cons
        · exact ok_move rfl rfl rfl
        apply Walk.cons
        · first | exact ok_skip rfl | exact ok_skip_u rfl | exact ok_fld rfl rfl rfl fo31_1 rfl | exact ok_fld_v rfl rfl rfl fo31_1 rfl
        apply Walk.cons
        · first | exact ok_skip rfl | exact ok_skip_u rfl | exact ok_load_cell rfl rfl rfl rfl one3 rfl
        apply Walk.cons
        · first | exact ok_skip rfl | exact ok_skip_u rfl | exact o_bin rfl rfl rfl rfl (r_leqi rfl)
        apply Walk.cons
        · first | exact ok_skip rfl | exact ok_skip_u rfl | exact ok_move rfl rfl rfl
        apply Walk.cons
        · first | exact ok_skip rfl | exact ok_skip_u rfl | exact ok_fld rfl rfl rfl fo31_0 rfl | exact ok_fld_v rfl rfl rfl fo31_0 rfl
        apply Walk.cons
        · first | exact ok_skip rfl | exact ok_skip_u rfl | exact ok_fld rfl rfl rfl fo24_0 rfl | exact ok_fld_v rfl rfl rfl fo24_0 rfl
        apply Walk.cons
        · first | exact ok_skip rfl | exact ok_skip_u rfl | exact ok_load_cell rfl rfl rfl rfl one4 rfl
        apply Walk.cons
        · first | exact ok_skip rfl | exact ok_skip_u rfl | exact ok_move rfl rfl rfl
        apply Walk.cons
        · first | exact ok_skip rfl | exact ok_skip_u rfl | exact ok_fld rfl rfl rfl fo31_1 rfl | exact ok_fld_v rfl rfl rfl fo31_1 rfl
        apply Walk.cons
        · first | exact ok_skip rfl | exact ok_skip_u rfl | exact ok_load_cell rfl rfl rfl rfl one3 rfl
        apply Walk.cons
        · first | exact ok_skip rfl | exact ok_skip_u rfl | exact o_bin rfl rfl rfl rfl (r_leqi rfl)
        apply Walk.cons
        · first | exact ok_skip rfl | exact ok_skip_u rfl | exact ok_pick_true rfl rfl rfl rfl | exact ok_pick_false rfl rfl rfl rfl
        apply Walk.cons
        · first | exact ok_skip rfl | exact ok_skip_u rfl | exact ok_pick_true rfl rfl rfl rfl | exact ok_pick_false rfl rfl rfl rfl
        apply Walk.cons
        · first | exact ok_pick_true rfl rfl rfl rfl | exact ok_pick_false rfl rfl rfl rfl
        apply Walk.cons
        · exact ok_assign rfl rfl rfl
        exact Walk.nil _
      case hck => kernel_rfl
      case hQ =>
        intro ρ A w1 h
        refine wp_ret ?_
        repeat (first | refine Exit.thenRet ?_ | refine Exit.blockRet ?_)
        refine h.result_tmp Try.results21 rfl ?_
        exact ⟨rfl, h.below⟩
theorem right_c (v : Bool) (n : Nat) (b : Int) (hv : validA v n = true) (hb0 : b ≥ 0) (hb1 : b ≤ 32) (w : World) : Calls Try.prog 21 #[.agg (pfc v n b)] w fun e w' => e = .returned (.bool true) ∧ Below w.heap.size w w' := by
  go_enter Try.func21, Try.ntmps21
  have h := Rep.start (N := 28) [.agg (pfc v n b)] [undef, undef, undef, undef, undef, undef, undef, undef, undef, undef, undef, undef, undef, undef, undef, undef, undef, undef, undef, undef, undef, undef, undef, undef, undef, undef, undef] w rfl
  apply seq_dag hmix h
  case hw =>
    apply Walk.cons
    · exact o_box31 1 rfl rfl rfl
    apply Walk.cons
    · exact ok_assign rfl rfl rfl
    exact Walk.nil _
  case hck => kernel_rfl
  case hQ =>
    intro ρ A w1 h
    apply seq_dag hmix h
    case hw =>
      apply Walk.cons
      · first | exact ok_fld rfl rfl rfl fo31_0 rfl | exact ok_fld_v rfl rfl rfl fo31_0 rfl
      apply Walk.cons
      · first | exact o_load24 rfl rfl rfl rfl | exact o_load24p rfl rfl rfl rfl
      apply Walk.cons
      · exact ok_call_val rfl rfl fn29 [.v _] rfl (rd := []) (fun _ w _ _ => hv ▸ rvalid_any _ n w)
      apply Walk.cons
      · exact ok_assign rfl rfl rfl
      exact Walk.nil _
    case hck => kernel_rfl
    case hQ =>
      intro ρ A w1 h
      apply seq_dag hmix h
      case hw =>
        apply Walk.cons
        · exact ok_move rfl rfl rfl
        apply Walk.cons
        · exact ok_move rfl rfl rfl
        apply Walk.cons
        · first | exact ok_skip rfl | exact ok_skip_u rfl | exact ok_fld rfl rfl rfl fo31_1 rfl | exact ok_fld_v rfl rfl rfl fo31_1 rfl
        apply Walk.cons
        · first | exact ok_skip rfl | exact ok_skip_u rfl | exact ok_load_cell rfl rfl rfl rfl one3 rfl
        apply Walk.cons
        · first | exact ok_skip rfl | exact ok_skip_u rfl | exact o_bin rfl rfl rfl rfl (r_geqz (decide_eq_true hb0))
        apply Walk.cons
        · first | exact ok_pick_true rfl rfl rfl rfl | exact ok_pick_false rfl rfl rfl rfl
        apply Walk.cons
        · exact ok_move rfl rfl rfl
        apply Walk.cons
        · first | exact ok_skip rfl | exact ok_skip_u rfl | exact ok_fld rfl rfl rfl fo31_1 rfl | exact ok_fld_v rfl rfl rfl fo31_1 rfl
        apply Walk.cons
        · first | exact ok_skip rfl | exact ok_skip_u rfl | exact ok_load_cell rfl rfl rfl rfl one3 rfl
        apply Walk.cons
        · first | exact ok_skip rfl | exact ok_skip_u rfl | exact o_bin rfl rfl rfl rfl (r_leqi (decide_eq_true hb1))
        apply Walk.cons
        · first | exact ok_skip rfl | exact ok_skip_u rfl | exact ok_move rfl rfl rfl
        apply Walk.cons
        · first | exact ok_skip rfl | exact ok_skip_u rfl | exact ok_fld rfl rfl rfl fo31_0 rfl | exact ok_fld_v rfl rfl rfl fo31_0 rfl
        apply Walk.cons
        · first | exact ok_skip rfl | exact ok_skip_u rfl | exact ok_fld rfl rfl rfl fo24_0 rfl | exact ok_fld_v rfl rfl rfl fo24_0 rfl
        apply Walk.cons
        · first | exact ok_skip rfl | exact ok_skip_u rfl | exact ok_load_cell rfl rfl rfl rfl one4 rfl
        apply Walk.cons
        · first | exact ok_skip rfl | exact ok_skip_u rfl | exact ok_move rfl rfl rfl
        apply Walk.cons
        · first | exact ok_skip rfl | exact ok_skip_u rfl | exact ok_fld rfl rfl rfl fo31_1 rfl | exact ok_fld_v rfl rfl rfl fo31_1 rfl
        apply Walk.cons
        · first | exact ok_skip rfl | exact ok_skip_u rfl | exact ok_load_cell rfl rfl rfl rfl one3 rfl
        apply Walk.cons
        · first | exact ok_skip rfl | exact ok_skip_u rfl | exact o_bin rfl rfl rfl rfl (r_leqi rfl)
        apply Walk.cons
        · first | exact ok_skip rfl | exact ok_skip_u rfl | exact ok_pick_true rfl rfl rfl rfl | exact ok_pick_false rfl rfl rfl rfl
        apply Walk.cons
        · first | exact ok_skip rfl | exact ok_skip_u rfl | exact ok_pick_true rfl rfl rfl rfl | exact ok_pick_false rfl rfl rfl rfl
        apply Walk.cons
        · first | exact ok_pick_true rfl rfl rfl rfl | exact ok_pick_false rfl rfl rfl rfl
        apply Walk.cons
        · exact ok_assign rfl rfl rfl
        exact Walk.nil _
      case hck => kernel_rfl
      case hQ =>
        intro ρ A w1 h
        refine wp_ret ?_
        repeat (first | refine Exit.thenRet ?_ | refine Exit.blockRet ?_)
        refine h.result_tmp Try.results21 rfl ?_
        exact ⟨rfl, h.below⟩
theorem right_d (n : Nat) (b : Int) (hv : validA false n = true) (hb0 : b ≥ 0) (hb1 : ¬ b ≤ 32) (w : World) : Calls Try.prog 21 #[.agg (pfc false n b)] w fun e w' => e = .returned (.bool false) ∧ Below w.heap.size w w' := by
  go_enter Try.func21, Try.ntmps21
  have h := Rep.start (N := 28) [.agg (pfc false n b)] [undef, undef, undef, undef, undef, undef, undef, undef, undef, undef, undef, undef, undef, undef, undef, undef, undef, undef, undef, undef, undef, undef, undef, undef, undef, undef, undef] w rfl
  apply seq_dag hmix h
  case hw =>
    apply Walk.cons
    · exact o_box31 1 rfl rfl rfl
    apply Walk.cons
    · exact ok_assign rfl rfl rfl
    exact Walk.nil _
  case hck => kernel_rfl
  case hQ =>
    intro ρ A w1 h
    apply seq_dag hmix h
    case hw =>
      apply Walk.cons
      · first | exact ok_fld rfl rfl rfl fo31_0 rfl | exact ok_fld_v rfl rfl rfl fo31_0 rfl
      apply Walk.cons
      · first | exact o_load24 rfl rfl rfl rfl | exact o_load24p rfl rfl rfl rfl
      apply Walk.cons
      · exact ok_call_val rfl rfl fn29 [.v _] rfl (rd := []) (fun _ w _ _ => hv ▸ rvalid_any _ n w)
      apply Walk.cons
      · exact ok_assign rfl rfl rfl
      exact Walk.nil _
    case hck => kernel_rfl
    case hQ =>
      intro ρ A w1 h
      apply seq_dag hmix h
      case hw =>
        apply Walk.cons
        · exact ok_move rfl rfl rfl
        apply Walk.cons
        · exact ok_move rfl rfl rfl
        apply Walk.cons
        · first | exact ok_skip rfl | exact ok_skip_u rfl | exact ok_fld rfl rfl rfl fo31_1 rfl | exact ok_fld_v rfl rfl rfl fo31_1 rfl
        apply Walk.cons
        · first | exact ok_skip rfl | exact ok_skip_u rfl | exact ok_load_cell rfl rfl rfl rfl one3 rfl
        apply Walk.cons
        · first | exact ok_skip rfl | exact ok_skip_u rfl | exact o_bin rfl rfl rfl rfl (r_geqz (decide_eq_true hb0))
        apply Walk.cons
        · first | exact ok_pick_true rfl rfl rfl rfl | exact ok_pick_false rfl rfl rfl rfl
        apply Walk.cons
        · exact ok_move rfl rfl rfl
        apply Walk.cons
        · first | exact ok_skip rfl | exact ok_skip_u rfl | exact ok_fld rfl rfl rfl fo31_1 rfl | exact ok_fld_v rfl rfl rfl fo31_1 rfl
        apply Walk.cons
        · first | exact ok_skip rfl | exact ok_skip_u rfl | exact ok_load_cell rfl rfl rfl rfl one3 rfl
        apply Walk.cons
        · first | exact ok_skip rfl | exact ok_skip_u rfl | exact o_bin rfl rfl rfl rfl (r_leqi (decide_eq_false hb1))
        apply Walk.cons
        · first | exact ok_skip rfl | exact ok_skip_u rfl | exact ok_move rfl rfl rfl
        apply Walk.cons
        · first | exact ok_skip rfl | exact ok_skip_u rfl | exact ok_fld rfl rfl rfl fo31_0 rfl | exact ok_fld_v rfl rfl rfl fo31_0 rfl
        apply Walk.cons
        · first | exact ok_skip rfl | exact ok_skip_u rfl | exact ok_fld rfl rfl rfl fo24_0 rfl | exact ok_fld_v rfl rfl rfl fo24_0 rfl
        apply Walk.cons
        · first | exact ok_skip rfl | exact ok_skip_u rfl | exact ok_load_cell rfl rfl rfl rfl one4 rfl
        apply Walk.cons
        · first | exact ok_skip rfl | exact ok_skip_u rfl | exact ok_move rfl rfl rfl
        apply Walk.cons
        · first | exact ok_skip rfl | exact ok_skip_u rfl | exact ok_fld rfl rfl rfl fo31_1 rfl | exact ok_fld_v rfl rfl rfl fo31_1 rfl
        apply Walk.cons
        · first | exact ok_skip rfl | exact ok_skip_u rfl | exact ok_load_cell rfl rfl rfl rfl one3 rfl
        apply Walk.cons
        · first | exact ok_skip rfl | exact ok_skip_u rfl | exact o_bin rfl rfl rfl rfl (r_leqi rfl)
        apply Walk.cons
        · first | exact ok_skip rfl | exact ok_skip_u rfl | exact ok_pick_true rfl rfl rfl rfl | exact ok_pick_false rfl rfl rfl rfl
        apply Walk.cons
        · first | exact ok_skip rfl | exact ok_skip_u rfl | exact ok_pick_true rfl rfl rfl rfl | exact ok_pick_false rfl rfl rfl rfl
        apply Walk.cons
        · first | exact ok_pick_true rfl rfl rfl rfl | exact ok_pick_false rfl rfl rfl rfl
        apply Walk.cons
        · exact ok_assign rfl rfl rfl
        exact Walk.nil _
      case hck => kernel_rfl
      case hQ =>
        intro ρ A w1 h
        refine wp_ret ?_
        repeat (first | refine Exit.thenRet ?_ | refine Exit.blockRet ?_)
        refine h.result_tmp Try.results21 rfl ?_
        exact ⟨rfl, h.below⟩
theorem right_e (n : Nat) (b : Int) (hv : validA true n = true) (hb0 : b ≥ 0) (hb1 : ¬ b ≤ 32) (hb2 : b ≤ 128) (w : World) : Calls Try.prog 21 #[.agg (pfc true n b)] w fun e w' => e = .returned (.bool true) ∧ Below w.heap.size w w' := by
  go_enter Try.func21, Try.ntmps21
  have h := Rep.start (N := 28) [.agg (pfc true n b)] [undef, undef, undef, undef, undef, undef, undef, undef, undef, undef, undef, undef, undef, undef, undef, undef, undef, undef, undef, undef, undef, undef, undef, undef, undef, undef, undef] w rfl
  apply seq_dag hmix h
  case hw =>
    apply Walk.cons
    · exact o_box31 1 rfl rfl rfl
    apply Walk.cons
    · exact ok_assign rfl rfl rfl
    exact Walk.nil _
  case hck => kernel_rfl
  case hQ =>
    intro ρ A w1 h
    apply seq_dag hmix h
    case hw =>
      apply Walk.cons
      · first | exact ok_fld rfl rfl rfl fo31_0 rfl | exact ok_fld_v rfl rfl rfl fo31_0 rfl
      apply Walk.cons
      · first | exact o_load24 rfl rfl rfl rfl | exact o_load24p rfl rfl rfl rfl
      apply Walk.cons
      · exact ok_call_val rfl rfl fn29 [.v _] rfl (rd := []) (fun _ w _ _ => hv ▸ rvalid_any _ n w)
      apply Walk.cons
      · exact ok_assign rfl rfl rfl
      exact Walk.nil _
    case hck => kernel_rfl
    case hQ =>
      intro ρ A w1 h
      apply seq_dag hmix h
      case hw =>
        apply Walk.cons
        · exact ok_move rfl rfl rfl
        apply Walk.cons
        · exact ok_move rfl rfl rfl
        apply Walk.cons
        · first | exact ok_skip rfl | exact ok_skip_u rfl | exact ok_fld rfl rfl rfl fo31_1 rfl | exact ok_fld_v rfl rfl rfl fo31_1 rfl
        apply Walk.cons
        · first | exact ok_skip rfl | exact ok_skip_u rfl | exact ok_load_cell rfl rfl rfl rfl one3 rfl
        apply Walk.cons
        · first | exact ok_skip rfl | exact ok_skip_u rfl | exact o_bin rfl rfl rfl rfl (r_geqz (decide_eq_true hb0))
        apply Walk.cons
        · first | exact ok_pick_true rfl rfl rfl rfl | exact ok_pick_false rfl rfl rfl rfl
        apply Walk.cons
        · exact ok_move rfl rfl rfl
        apply Walk.cons
        · first | exact ok_skip rfl | exact ok_skip_u rfl | exact ok_fld rfl rfl rfl fo31_1 rfl | exact ok_fld_v rfl rfl rfl fo31_1 rfl
        apply Walk.cons
        · first | exact ok_skip rfl | exact ok_skip_u rfl | exact ok_load_cell rfl rfl rfl rfl one3 rfl
        apply Walk.cons
        · first | exact ok_skip rfl | exact ok_skip_u rfl | exact o_bin rfl rfl rfl rfl (r_leqi (decide_eq_false hb1))
        apply Walk.cons
        · first | exact ok_skip rfl | exact ok_skip_u rfl | exact ok_move rfl rfl rfl
        apply Walk.cons
        · first | exact ok_skip rfl | exact ok_skip_u rfl | exact ok_fld rfl rfl rfl fo31_0 rfl | exact ok_fld_v rfl rfl rfl fo31_0 rfl
        apply Walk.cons
        · first | exact ok_skip rfl | exact ok_skip_u rfl | exact ok_fld rfl rfl rfl fo24_0 rfl | exact ok_fld_v rfl rfl rfl fo24_0 rfl
        apply Walk.cons
        · first | exact ok_skip rfl | exact ok_skip_u rfl | exact ok_load_cell rfl rfl rfl rfl one4 rfl
        apply Walk.cons
        · first | exact ok_skip rfl | exact ok_skip_u rfl | exact ok_move rfl rfl rfl
        apply Walk.cons
        · first | exact ok_skip rfl | exact ok_skip_u rfl | exact ok_fld rfl rfl rfl fo31_1 rfl | exact ok_fld_v rfl rfl rfl fo31_1 rfl
        apply Walk.cons
        · first | exact ok_skip rfl | exact ok_skip_u rfl | exact ok_load_cell rfl rfl rfl rfl one3 rfl
        apply Walk.cons
        · first | exact ok_skip rfl | exact ok_skip_u rfl | exact o_bin rfl rfl rfl rfl (r_leqi (decide_eq_true hb2))
        apply Walk.cons
        · first | exact ok_skip rfl | exact ok_skip_u rfl | exact ok_pick_true rfl rfl rfl rfl | exact ok_pick_false rfl rfl rfl rfl
        apply Walk.cons
        · first | exact ok_skip rfl | exact ok_skip_u rfl | exact ok_pick_true rfl rfl rfl rfl | exact ok_pick_false rfl rfl rfl rfl
        apply Walk.cons
        · first | exact ok_pick_true rfl rfl rfl rfl | exact ok_pick_false rfl rfl rfl rfl
        apply Walk.cons
        · exact ok_assign rfl rfl rfl
        exact Walk.nil _
      case hck => kernel_rfl
      case hQ =>
        intro ρ A w1 h
        refine wp_ret ?_
        repeat (first | refine Exit.thenRet ?_ | refine Exit.blockRet ?_)
        refine h.result_tmp Try.results21 rfl ?_
        exact ⟨rfl, h.below⟩
theorem right_f (n : Nat) (b : Int) (hv : validA true n = true) (hb0 : b ≥ 0) (hb1 : ¬ b ≤ 32) (hb2 : ¬ b ≤ 128) (w : World) : Calls Try.prog 21 #[.agg (pfc true n b)] w fun e w' => e = .returned (.bool false) ∧ Below w.heap.size w w' := by
  go_enter Try.func21, Try.ntmps21
  have h := Rep.start (N := 28) [.agg (pfc true n b)] [undef, undef, undef, undef, undef, undef, undef, undef, undef, undef, undef, undef, undef, undef, undef, undef, undef, undef, undef, undef, undef, undef, undef, undef, undef, undef, undef] w rfl
  apply seq_dag hmix h
  case hw =>
    apply Walk.cons
    · exact o_box31 1 rfl rfl rfl
    apply Walk.cons
    · exact ok_assign rfl rfl rfl
    exact Walk.nil _
  case hck => kernel_rfl
  case hQ =>
    intro ρ A w1 h
    apply seq_dag hmix h
    case hw =>
      apply Walk.cons
      · first | exact ok_fld rfl rfl rfl fo31_0 rfl | exact ok_fld_v rfl rfl rfl fo31_0 rfl
      apply Walk.cons
      · first | exact o_load24 rfl rfl rfl rfl | exact o_load24p rfl rfl rfl rfl
      apply Walk.cons
      · exact ok_call_val rfl rfl fn29 [.v _] rfl (rd := []) (fun _ w _ _ => hv ▸ rvalid_any _ n w)
      apply Walk.cons
      · exact ok_assign rfl rfl rfl
      exact Walk.nil _
    case hck => kernel_rfl
    case hQ =>
      intro ρ A w1 h
      apply seq_dag hmix h
      case hw =>
        apply Walk.cons
        · exact ok_move rfl rfl rfl
        apply Walk.cons
        · exact ok_move rfl rfl rfl
        apply Walk.cons
        · first | exact ok_skip rfl | exact ok_skip_u rfl | exact ok_fld rfl rfl rfl fo31_1 rfl | exact ok_fld_v rfl rfl rfl fo31_1 rfl
        apply Walk.cons
        · first | exact ok_skip rfl | exact ok_skip_u rfl | exact ok_load_cell rfl rfl rfl rfl one3 rfl
        apply Walk.cons
        · first | exact ok_skip rfl | exact ok_skip_u rfl | exact o_bin rfl rfl rfl rfl (r_geqz (decide_eq_true hb0))
        apply Walk.cons
        · first | exact ok_pick_true rfl rfl rfl rfl | exact ok_pick_false rfl rfl rfl rfl
        apply Walk.cons
        · exact ok_move rfl rfl rfl
        apply Walk.cons
        · first | exact ok_skip rfl | exact ok_skip_u rfl | exact ok_fld rfl rfl rfl fo31_1 rfl | exact ok_fld_v rfl rfl rfl fo31_1 rfl
        apply Walk.cons
        · first | exact ok_skip rfl | exact ok_skip_u rfl | exact ok_load_cell rfl rfl rfl rfl one3 rfl
        apply Walk.cons
        · first | exact ok_skip rfl | exact ok_skip_u rfl | exact o_bin rfl rfl rfl rfl (r_leqi (decide_eq_false hb1))
        apply Walk.cons
        · first | exact ok_skip rfl | exact ok_skip_u rfl | exact ok_move rfl rfl rfl
        apply Walk.cons
        · first | exact ok_skip rfl | exact ok_skip_u rfl | exact ok_fld rfl rfl rfl fo31_0 rfl | exact ok_fld_v rfl rfl rfl fo31_0 rfl
        apply Walk.cons
        · first | exact ok_skip rfl | exact ok_skip_u rfl | exact ok_fld rfl rfl rfl fo24_0 rfl | exact ok_fld_v rfl rfl rfl fo24_0 rfl
        apply Walk.cons
        · first | exact ok_skip rfl | exact ok_skip_u rfl | exact ok_load_cell rfl rfl rfl rfl one4 rfl
        apply Walk.cons
        · first | exact ok_skip rfl | exact ok_skip_u rfl | exact ok_move rfl rfl rfl
        apply Walk.cons
        · first | exact ok_skip rfl | exact ok_skip_u rfl | exact ok_fld rfl rfl rfl fo31_1 rfl | exact ok_fld_v rfl rfl rfl fo31_1 rfl
        apply Walk.cons
        · first | exact ok_skip rfl | exact ok_skip_u rfl | exact ok_load_cell rfl rfl rfl rfl one3 rfl
        apply Walk.cons
        · first | exact ok_skip rfl | exact ok_skip_u rfl | exact o_bin rfl rfl rfl rfl (r_leqi (decide_eq_false hb2))
        apply Walk.cons
        · first | exact ok_skip rfl | exact ok_skip_u rfl | exact ok_pick_true rfl rfl rfl rfl | exact ok_pick_false rfl rfl rfl rfl
        apply Walk.cons
        · first | exact ok_skip rfl | exact ok_skip_u rfl | exact ok_pick_true rfl rfl rfl rfl | exact ok_pick_false rfl rfl rfl rfl
        apply Walk.cons
        · first | exact ok_pick_true rfl rfl rfl rfl | exact ok_pick_false rfl rfl rfl rfl
        apply Walk.cons
        · exact ok_assign rfl rfl rfl
        exact Walk.nil _
      case hck => kernel_rfl
      case hQ =>
        intro ρ A w1 h
        refine wp_ret ?_
        repeat (first | refine Exit.thenRet ?_ | refine Exit.blockRet ?_)
        refine h.result_tmp Try.results21 rfl ?_
        exact ⟨rfl, h.below⟩
/-- Right. -/
theorem right_any (v : Bool) (n : Nat) (b : Int) (w : World) : Calls Try.prog 21 #[.agg (pfc v n b)] w fun e w' => e = .returned (.bool (isPfx v n b)) ∧ Below w.heap.size w w' := by
  cases hv : validA v n with
  | false => rw [isPfx_def v n b false (by simp [hv])]; exact right_a v n b hv w
  | true =>
    by_cases hb0 : b ≥ 0
    · by_cases hb1 : b ≤ 32
      · rw [isPfx_def v n b true (by simp only [hv, decide_eq_true hb0, decide_eq_true hb1]; rfl)]; exact right_c v n b hv hb0 hb1 w
      · cases v with
        | false => rw [isPfx_def false n b false (by simp only [hv, decide_eq_true hb0, decide_eq_false hb1]; rfl)]; exact right_d n b hv hb0 hb1 w
        | true =>
          by_cases hb2 : b ≤ 128
          · rw [isPfx_def true n b true (by simp only [hv, decide_eq_true hb0, decide_eq_false hb1, decide_eq_true hb2]; rfl)]; exact right_e n b hv hb0 hb1 hb2 w
          · rw [isPfx_def true n b false (by simp only [hv, decide_eq_true hb0, decide_eq_false hb1, decide_eq_false hb2]; rfl)]; exact right_f n b hv hb0 hb1 hb2 w
    · rw [isPfx_def v n b false (by simp only [hv, decide_eq_false hb0]; rfl)]; exact right_b v n b hv hb0 w
/-! ### which stands ahead -/
def aheadB (v : Bool) (n : Nat) (b : Int) (v' : Bool) (n' : Nat) (b' : Int) : Bool := if v ≠ v' then v' else if n ≠ n' then decide (n < n') else decide (b < b')
theorem pow_bytes (i : Nat) (hi : i < 16) : 2 ^ (128 - 8 * i) = 256 ^ (16 - i) := by rw [pow_256]; congr 1; omega
theorem high_next (n i : Nat) (hi : i < 16) : n / 256 ^ (16 - (i + 1)) = n / 256 ^ (16 - i) * 256 + byteOf n (15 - i) := by
  rw [show 16 - (i + 1) = 15 - i by omega, show 16 - i = 15 - i + 1 by omega, Nat.pow_succ, ← Nat.div_div_eq_div_mul]
  have : byteOf n (15 - i) = n / 256 ^ (15 - i) % 256 := rfl
  omega
theorem ahead_at {n n' i : Nat} (hi : i < 16) (h : n / 256 ^ (16 - i) = n' / 256 ^ (16 - i)) (hne : byteOf n (15 - i) ≠ byteOf n' (15 - i)) : n ≠ n' ∧ (n < n' ↔ byteOf n (15 - i) < byteOf n' (15 - i)) := by
  have h1 := high_next n i hi
  have h2 := high_next n' i hi
  rw [h] at h1
  have hb := byteOf_lt n (15 - i)
  have hb' := byteOf_lt n' (15 - i)
  refine ⟨fun e => hne (by rw [e]), fun hlt => ?_, fun hlt => ?_⟩
  · have h3 : n / 256 ^ (16 - (i + 1)) ≤ n' / 256 ^ (16 - (i + 1)) := Nat.div_le_div_right (Nat.le_of_lt hlt)
    omega
  · apply Classical.byContradiction
    intro hge
    have h3 : n' / 256 ^ (16 - (i + 1)) ≤ n / 256 ^ (16 - (i + 1)) := Nat.div_le_div_right (by omega)
    omega
theorem r_neq8 {P : Program} {t : TypeId} {n m n' m' : Nat} {c : Bool} (h : decide (byteOf n m ≠ byteOf n' m') = c) (w : World) : (binOp .neq t (byteV n m) (byteV n' m')).run P w = .ok (.bool c) w := r_neqi (k := .u8) (a := byteOf n m) (b := byteOf n' m') h w
theorem r_lss8 {P : Program} {t : TypeId} {n m n' m' : Nat} {c : Bool} (h : decide (byteOf n m < byteOf n' m') = c) (w : World) : (binOp .lss t (byteV n m) (byteV n' m')).run P w = .ok (.bool c) w := r_lss (k := .u8) (a := byteOf n m) (b := byteOf n' m') h w
def bfS (v : Bool) (n : Nat) (b : Int) (v' : Bool) (n' : Nat) (b' : Int) (i : Nat) : St := ⟨[(2, .p 2 0), (3, .p 3 0), (4, .v (.bool false)), (5, .v (.int .i64 (i : Nat)))], [(2, .mk (pfc v n b) 31), (3, .mk (pfc v' n' b') 31)]⟩
theorem before_v (v : Bool) (n : Nat) (b : Int) (v' : Bool) (n' : Nat) (b' : Int) (hvv : v ≠ v') (w : World) : Calls Try.prog 33 #[.agg (pfc v n b), .agg (pfc v' n' b')] w fun e w' => e = .returned (.bool v') ∧ Below w.heap.size w w' := by
  go_enter Try.func33, Try.ntmps33
  have h := Rep.start (N := 47) [.agg (pfc v n b), .agg (pfc v' n' b')] [undef, undef, undef, undef, undef, undef, undef, undef, undef, undef, undef, undef, undef, undef, undef, undef, undef, undef, undef, undef, undef, undef, undef, undef, undef, undef, undef, undef, undef, undef, undef, undef, undef, undef, undef, undef, undef, undef, undef, undef, undef, undef, undef, undef, undef] w rfl
  apply seq_dag hmix h
  case hw =>
    apply Walk.cons
    · exact o_box31 2 rfl rfl rfl
    apply Walk.cons
    · exact o_box31 3 rfl rfl rfl
    apply Walk.cons
    · exact ok_assign rfl rfl rfl
    exact Walk.nil _
  case hck => kernel_rfl
  case hQ =>
    intro ρ A w1 h
    refine wp_seq ?_
    apply seq_dag hmix h
    case hw =>
      apply Walk.cons
      · first | exact ok_fld rfl rfl rfl fo31_0 rfl | exact ok_fld_v rfl rfl rfl fo31_0 rfl
      apply Walk.cons
      · first | exact ok_fld rfl rfl rfl fo24_0 rfl | exact ok_fld_v rfl rfl rfl fo24_0 rfl
      apply Walk.cons
      · exact ok_load_cell rfl rfl rfl rfl one4 rfl
      apply Walk.cons
      · first | exact ok_fld rfl rfl rfl fo31_0 rfl | exact ok_fld_v rfl rfl rfl fo31_0 rfl
      apply Walk.cons
      · first | exact ok_fld rfl rfl rfl fo24_0 rfl | exact ok_fld_v rfl rfl rfl fo24_0 rfl
      apply Walk.cons
      · exact ok_load_cell rfl rfl rfl rfl one4 rfl
      apply Walk.cons
      · exact o_neqb rfl rfl rfl rfl (c := true) (by cases v <;> cases v' <;> first | rfl | exact absurd rfl hvv)
      exact Walk.nil _
    case hck => kernel_rfl
    case hQ =>
      intro ρ A w1 h
      refine if_true' h rfl ?_
      apply seq_dag hmix h
      case hw =>
        apply Walk.cons
        · first | exact ok_fld rfl rfl rfl fo31_0 rfl | exact ok_fld_v rfl rfl rfl fo31_0 rfl
        apply Walk.cons
        · first | exact ok_fld rfl rfl rfl fo24_0 rfl | exact ok_fld_v rfl rfl rfl fo24_0 rfl
        apply Walk.cons
        · exact ok_load_cell rfl rfl rfl rfl one4 rfl
        apply Walk.cons
        · exact ok_assign rfl rfl rfl
        exact Walk.nil _
      case hck => kernel_rfl
      case hQ =>
        intro ρ A w1 h
        refine wp_ret ?_
        repeat (first | refine Exit.thenRet ?_ | refine Exit.blockRet ?_)
        refine h.result_tmp Try.results33 rfl ?_
        exact ⟨rfl, h.below⟩
set_option maxHeartbeats 1000000 in
theorem before_n (v : Bool) (n : Nat) (b : Int) (n' : Nat) (b' : Int) (hn : n < 2 ^ 128) (hn' : n' < 2 ^ 128) (w : World) : Calls Try.prog 33 #[.agg (pfc v n b), .agg (pfc v n' b')] w fun e w' => e = .returned (.bool (if n ≠ n' then decide (n < n') else decide (b < b'))) ∧ Below w.heap.size w w' := by
  go_enter Try.func33, Try.ntmps33
  have h := Rep.start (N := 47) [.agg (pfc v n b), .agg (pfc v n' b')] [undef, undef, undef, undef, undef, undef, undef, undef, undef, undef, undef, undef, undef, undef, undef, undef, undef, undef, undef, undef, undef, undef, undef, undef, undef, undef, undef, undef, undef, undef, undef, undef, undef, undef, undef, undef, undef, undef, undef, undef, undef, undef, undef, undef, undef] w rfl
  apply seq_dag hmix h
  case hw =>
    apply Walk.cons
    · exact o_box31 2 rfl rfl rfl
    apply Walk.cons
    · exact o_box31 3 rfl rfl rfl
    apply Walk.cons
    · exact ok_assign rfl rfl rfl
    exact Walk.nil _
  case hck => kernel_rfl
  case hQ =>
    intro ρ A w1 h
    refine wp_seq ?_
    apply seq_dag hmix h
    case hw =>
      apply Walk.cons
      · first | exact ok_fld rfl rfl rfl fo31_0 rfl | exact ok_fld_v rfl rfl rfl fo31_0 rfl
      apply Walk.cons
      · first | exact ok_fld rfl rfl rfl fo24_0 rfl | exact ok_fld_v rfl rfl rfl fo24_0 rfl
      apply Walk.cons
      · exact ok_load_cell rfl rfl rfl rfl one4 rfl
      apply Walk.cons
      · first | exact ok_fld rfl rfl rfl fo31_0 rfl | exact ok_fld_v rfl rfl rfl fo31_0 rfl
      apply Walk.cons
      · first | exact ok_fld rfl rfl rfl fo24_0 rfl | exact ok_fld_v rfl rfl rfl fo24_0 rfl
      apply Walk.cons
      · exact ok_load_cell rfl rfl rfl rfl one4 rfl
      apply Walk.cons
      · exact o_neqb rfl rfl rfl rfl (c := false) (by cases v <;> rfl)
      exact Walk.nil _
    case hck => kernel_rfl
    case hQ =>
      intro ρ A w1 h
      refine if_false' h rfl (wp_skip (Exit.then_normal ?_))
      refine wp_seq ?_
      apply seq_dag hmix h
      case hw =>
        apply Walk.cons
        · exact ok_assign rfl rfl rfl
        exact Walk.nil _
      case hck => kernel_rfl
      case hQ =>
        intro ρ A w1 h
        refine wp_block ?_
        refine rep_loop_by (fun i => 16 - i) (fun i => bfS v n b v n' b' i) (fun i => i ≤ 16 ∧ n / 256 ^ (16 - i) = n' / 256 ^ (16 - i)) 0 ⟨Nat.zero_le _, by rw [Nat.div_eq_of_lt (by rw [pow_256]; exact hn), Nat.div_eq_of_lt (by rw [pow_256]; exact hn')]⟩ (h.plain (bfS v n b v n' b' 0) ⟨rfl, rfl, rfl, rfl, trivial⟩ ⟨rfl, rfl, trivial⟩ rfl) ?_
        clear h
        rintro i ρ A w2 ⟨hi16, hag⟩ h
        refine wp_seq ?_
        by_cases hi : i < 16
        · by_cases hne : byteOf n (15 - i) ≠ byteOf n' (15 - i)
          · obtain ⟨hd, hlt⟩ := ahead_at hi hag hne
            apply seq_dag hmix h
            case hw =>
              apply Walk.cons
              · exact ok_move rfl rfl rfl
              apply Walk.cons
              · exact o_bin rfl rfl rfl rfl (r_lss (b := 16) (decide_eq_true hi))
              exact Walk.nil _
            case hck => kernel_rfl
            case hQ =>
              intro ρ A w1 h
              refine if_true' h rfl (wp_skip ?_)
              refine Exit.then_normal ?_
              refine wp_seq (wp_block ?_)
              apply seq_dag hmix h
              case hw =>
                apply Walk.cons
                · exact ok_move rfl rfl rfl
                apply Walk.cons
                · first | exact ok_fld rfl rfl rfl fo31_0 rfl | exact ok_fld_v rfl rfl rfl fo31_0 rfl
                apply Walk.cons
                · first | exact ok_fld rfl rfl rfl fo24_1 rfl | exact ok_fld_v rfl rfl rfl fo24_1 rfl
                apply Walk.cons
                · exact o_at22 rfl rfl rfl rfl rfl (by omega)
                apply Walk.cons
                · exact o_load5p rfl rfl rfl rfl (by omega)
                apply Walk.cons
                · exact ok_move rfl rfl rfl
                apply Walk.cons
                · first | exact ok_fld rfl rfl rfl fo31_0 rfl | exact ok_fld_v rfl rfl rfl fo31_0 rfl
                apply Walk.cons
                · first | exact ok_fld rfl rfl rfl fo24_1 rfl | exact ok_fld_v rfl rfl rfl fo24_1 rfl
                apply Walk.cons
                · exact o_at22 rfl rfl rfl rfl rfl (by omega)
                apply Walk.cons
                · exact o_load5p rfl rfl rfl rfl (by omega)
                apply Walk.cons
                · exact o_bin rfl rfl rfl rfl (r_neq8 (decide_eq_true hne))
                exact Walk.nil _
              case hck => kernel_rfl
              case hQ =>
                intro ρ A w1 h
                refine if_true' h rfl ?_
                apply seq_dag hmix h
                case hw =>
                  apply Walk.cons
                  · exact ok_move rfl rfl rfl
                  apply Walk.cons
                  · first | exact ok_fld rfl rfl rfl fo31_0 rfl | exact ok_fld_v rfl rfl rfl fo31_0 rfl
                  apply Walk.cons
                  · first | exact ok_fld rfl rfl rfl fo24_1 rfl | exact ok_fld_v rfl rfl rfl fo24_1 rfl
                  apply Walk.cons
                  · exact o_at22 rfl rfl rfl rfl rfl (by omega)
                  apply Walk.cons
                  · exact o_load5p rfl rfl rfl rfl (by omega)
                  apply Walk.cons
                  · exact ok_move rfl rfl rfl
                  apply Walk.cons
                  · first | exact ok_fld rfl rfl rfl fo31_0 rfl | exact ok_fld_v rfl rfl rfl fo31_0 rfl
                  apply Walk.cons
                  · first | exact ok_fld rfl rfl rfl fo24_1 rfl | exact ok_fld_v rfl rfl rfl fo24_1 rfl
                  apply Walk.cons
                  · exact o_at22 rfl rfl rfl rfl rfl (by omega)
                  apply Walk.cons
                  · exact o_load5p rfl rfl rfl rfl (by omega)
                  apply Walk.cons
                  · exact o_bin rfl rfl rfl rfl (r_lss8 rfl)
                  apply Walk.cons
                  · exact ok_assign rfl rfl rfl
                  exact Walk.nil _
                case hck => kernel_rfl
                case hQ =>
                  intro ρ A w1 h
                  refine wp_ret ?_
                  repeat (first | refine Exit.thenRet ?_ | refine Exit.blockRet ?_)
                  refine h.result_tmp Try.results33 rfl ?_
                  refine ⟨?_, h.below⟩
                  rw [if_pos hd]
                  congr 2
                  by_cases hl : n < n'
                  · rw [decide_eq_true hl, decide_eq_true (hlt.1 hl)]
                  · rw [decide_eq_false hl, decide_eq_false (fun t => hl (hlt.2 t))]
          · have hag2 : n / 256 ^ (16 - (i + 1)) = n' / 256 ^ (16 - (i + 1)) := by
              rw [high_next n i hi, high_next n' i hi, hag, Classical.not_not.1 hne]
            apply seq_dag hmix h
            case hw =>
              apply Walk.cons
              · exact ok_move rfl rfl rfl
              apply Walk.cons
              · exact o_bin rfl rfl rfl rfl (r_lss (b := 16) (decide_eq_true hi))
              exact Walk.nil _
            case hck => kernel_rfl
            case hQ =>
              intro ρ A w1 h
              refine if_true' h rfl (wp_skip ?_)
              refine Exit.then_normal ?_
              refine wp_seq (wp_block ?_)
              apply seq_dag hmix h
              case hw =>
                apply Walk.cons
                · exact ok_move rfl rfl rfl
                apply Walk.cons
                · first | exact ok_fld rfl rfl rfl fo31_0 rfl | exact ok_fld_v rfl rfl rfl fo31_0 rfl
                apply Walk.cons
                · first | exact ok_fld rfl rfl rfl fo24_1 rfl | exact ok_fld_v rfl rfl rfl fo24_1 rfl
                apply Walk.cons
                · exact o_at22 rfl rfl rfl rfl rfl (by omega)
                apply Walk.cons
                · exact o_load5p rfl rfl rfl rfl (by omega)
                apply Walk.cons
                · exact ok_move rfl rfl rfl
                apply Walk.cons
                · first | exact ok_fld rfl rfl rfl fo31_0 rfl | exact ok_fld_v rfl rfl rfl fo31_0 rfl
                apply Walk.cons
                · first | exact ok_fld rfl rfl rfl fo24_1 rfl | exact ok_fld_v rfl rfl rfl fo24_1 rfl
                apply Walk.cons
                · exact o_at22 rfl rfl rfl rfl rfl (by omega)
                apply Walk.cons
                · exact o_load5p rfl rfl rfl rfl (by omega)
                apply Walk.cons
                · exact o_bin rfl rfl rfl rfl (r_neq8 (decide_eq_false hne))
                exact Walk.nil _
              case hck => kernel_rfl
              case hQ =>
                intro ρ A w1 h
                refine if_false' h rfl (wp_skip ?_)
                repeat (first | refine Exit.block_normal ?_ | refine Exit.then_normal ?_)
                apply region_dag hmix h
                case hw =>
                  apply Walk.cons
                  · exact ok_move rfl rfl rfl
                  apply Walk.cons
                  · exact o_bin rfl rfl rfl rfl (r_addi (b := 1) (by omega))
                  apply Walk.cons
                  · exact ok_assign rfl rfl rfl
                  exact Walk.nil _
                case hck => kernel_rfl
                case hQ =>
                  intro ρ A w1 h
                  exact ⟨i + 1, ρ, by omega, ⟨by omega, hag2⟩, h.plain (bfS v n b v n' b' (i + 1)) ⟨rfl, rfl, rfl, rfl, trivial⟩ ⟨rfl, rfl, trivial⟩ rfl⟩
        · obtain rfl : i = 16 := by omega
          have hnn : n = n' := by simpa using hag
          apply seq_dag hmix h
          case hw =>
            apply Walk.cons
            · exact ok_move rfl rfl rfl
            apply Walk.cons
            · exact o_bin rfl rfl rfl rfl (r_lss (b := 16) (decide_eq_false hi))
            exact Walk.nil _
          case hck => kernel_rfl
          case hQ =>
            intro ρ A w1 h
            refine if_false' h rfl (wp_exit ?_)
            repeat (first | refine Exit.thenExit ?_ | refine Exit.blockExitNe (by decide) ?_)
            refine Exit.blockExit ?_
            refine Exit.then_normal ?_
            apply seq_dag hmix h
            case hw =>
              apply Walk.cons
              · first | exact ok_fld rfl rfl rfl fo31_1 rfl | exact ok_fld_v rfl rfl rfl fo31_1 rfl
              apply Walk.cons
              · exact ok_load_cell rfl rfl rfl rfl one3 rfl
              apply Walk.cons
              · first | exact ok_fld rfl rfl rfl fo31_1 rfl | exact ok_fld_v rfl rfl rfl fo31_1 rfl
              apply Walk.cons
              · exact ok_load_cell rfl rfl rfl rfl one3 rfl
              apply Walk.cons
              · exact o_bin rfl rfl rfl rfl (r_lssi rfl)
              apply Walk.cons
              · exact ok_assign rfl rfl rfl
              exact Walk.nil _
            case hck => kernel_rfl
            case hQ =>
              intro ρ A w1 h
              refine wp_ret ?_
              repeat (first | refine Exit.thenRet ?_ | refine Exit.blockRet ?_)
              refine h.result_tmp Try.results33 rfl ?_
              exact ⟨by rw [if_neg (fun t => t hnn)], h.below⟩
/-- before. -/
theorem before_any (v : Bool) (n : Nat) (b : Int) (v' : Bool) (n' : Nat) (b' : Int) (hn : n < 2 ^ 128) (hn' : n' < 2 ^ 128) (w : World) : Calls Try.prog 33 #[.agg (pfc v n b), .agg (pfc v' n' b')] w fun e w' => e = .returned (.bool (aheadB v n b v' n' b')) ∧ Below w.heap.size w w' := by
  unfold aheadB
  by_cases hvv : v ≠ v'
  · rw [if_pos hvv]
    exact before_v v n b v' n' b' hvv w
  · rw [if_neg hvv]
    obtain rfl := Classical.not_not.1 hvv
    exact before_n v n b n' b' hn hn' w
end Go.Proofs.Ytnppgaohfegloaa
