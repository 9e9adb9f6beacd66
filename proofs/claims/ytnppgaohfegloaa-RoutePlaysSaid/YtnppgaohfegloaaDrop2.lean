/-
  The walk of Drop, of a prefix that may not be, and of one that is nobody's.
-/
import Derived.Test.YtnppgaohfegloaaDrop
namespace Go.Proofs.Ytnppgaohfegloaa
open Go.RowKit

theorem drop_bad {t : Nat} (v : Bool) (n : Nat) (b : Int) (hp' : isPfx v n b = false) (w : World) : Calls Try.prog 15 #[.pointer (some ⟨t, 0, none⟩), .agg (pfc v n b)] w fun e w' => e = .returned (.tuple #[.int .i64 0, .bool false]) ∧ Below w.heap.size w w' := by
  have hpre : ∀ w, Calls Try.prog 13 #[.agg (pfc v n b)] w fun e w' => e = .returned (.bool false) ∧ Below w.heap.size w w' := fun w => hp' ▸ isPrefix_any v n b w
  go_enter Try.func15, Try.ntmps15
  have h := Rep.start (N := 49) [.pointer (some ⟨t, 0, none⟩), .agg (pfc v n b)] [undef, undef, undef, undef, undef, undef, undef, undef, undef, undef, undef, undef, undef, undef, undef, undef, undef, undef, undef, undef, undef, undef, undef, undef, undef, undef, undef, undef, undef, undef, undef, undef, undef, undef, undef, undef, undef, undef, undef, undef, undef, undef, undef, undef, undef, undef, undef] w rfl
  apply seq_dag hmix h
  case hw =>
    apply Walk.cons
    · exact o_box31 3 rfl rfl rfl
    apply Walk.cons
    · exact ok_assign rfl rfl rfl
    apply Walk.cons
    · exact ok_assign rfl rfl rfl
    exact Walk.nil _
  case hck => kernel_rfl
  case hQ =>
    intro ρ A w1 h
    apply seq_dag hmix h
    case hw =>
      apply Walk.cons
      · exact ok_assign rfl rfl rfl
      exact Walk.nil _
    case hck => kernel_rfl
    case hQ =>
      intro ρ A w1 h
      refine wp_seq ?_
      apply seq_dag hmix h
      case hw =>
        apply Walk.cons
        · exact ok_move rfl rfl rfl
        apply Walk.cons
        · exact ok_pure rfl (by kernel_rfl) (v := .bool false) (fun w => by kernel_rfl)
        apply Walk.cons
        · exact ok_move rfl rfl rfl
        apply Walk.cons
        · first | exact ok_skip rfl | exact ok_skip_u rfl | exact o_load31 rfl rfl rfl rfl | exact o_load31op rfl rfl rfl rfl
        apply Walk.cons
        · first | exact ok_skip rfl | exact ok_skip_u rfl | exact ok_call_val rfl rfl fn13 [.v _] rfl (rd := []) (fun _ w _ _ => hpre w)
        apply Walk.cons
        · first | exact ok_skip rfl | exact ok_skip_u rfl | exact ok_not rfl rfl rfl rfl
        apply Walk.cons
        · first | exact ok_pick_true rfl rfl rfl rfl | exact ok_pick_false rfl rfl rfl rfl
        exact Walk.nil _
      case hck => kernel_rfl
      case hQ =>
        intro ρ A w1 h
        refine if_true' h rfl ?_
        apply seq_dag hmix h
        case hw =>
          apply Walk.cons
          · exact ok_move rfl rfl rfl
          apply Walk.cons
          · exact ok_assign rfl rfl rfl
          apply Walk.cons
          · exact ok_assign rfl rfl rfl
          exact Walk.nil _
        case hck => kernel_rfl
        case hQ =>
          intro ρ A w1 h
          refine wp_ret ?_
          repeat (first | refine Exit.thenRet ?_ | refine Exit.blockRet ?_)
          refine h.result_tmp2 Try.results15 rfl rfl ?_
          exact ⟨rfl, h.below⟩
set_option maxRecDepth 20000 in
set_option maxHeartbeats 1000000 in
theorem drop_none {t : Nat} {f : Nat → Prop} {M : Tab} (v : Bool) (n b : Nat) (hn : n < 2 ^ 128) (hp' : isPfx v n (b : Nat) = true) (ho : M.own v b (topD n b) = none) (w : World) (hA : (tabA M).holds t f (hp w)) :
    Calls Try.prog 15 #[.pointer (some ⟨t, 0, none⟩), .agg (pfc v n (b : Nat))] w fun e w' => e = .returned (.tuple #[.int .i64 0, .bool false]) ∧ Below w.heap.size w w' := by
  have hb := pfx128 hp'
  have hpre : ∀ w, Calls Try.prog 13 #[.agg (pfc v n (b : Nat))] w fun e w' => e = .returned (.bool true) ∧ Below w.heap.size w w' := fun w => hp' ▸ isPrefix_any v n b w
  obtain ⟨ids, T, hI, hf, hT⟩ := hA
  subst hf
  go_enter Try.func15, Try.ntmps15
  have h := Rep.startA (N := 49) (heapA T) t (fun n => T n ≠ none) [.pointer (some ⟨t, 0, none⟩), .agg (pfc v n (b : Nat))] [undef, undef, undef, undef, undef, undef, undef, undef, undef, undef, undef, undef, undef, undef, undef, undef, undef, undef, undef, undef, undef, undef, undef, undef, undef, undef, undef, undef, undef, undef, undef, undef, undef, undef, undef, undef, undef, undef, undef, undef, undef, undef, undef, undef, undef, undef, undef] w ⟨rfl, hT⟩ rfl
  apply seq_dag hmix h
  case hw =>
    apply Walk.cons
    · exact o_box31 3 rfl rfl rfl
    apply Walk.cons
    · exact ok_assign rfl rfl rfl
    apply Walk.cons
    · exact ok_assign rfl rfl rfl
    exact Walk.nil _
  case hck => kernel_rfl
  case hQ =>
    intro ρ A w1 h
    apply seq_dag hmix h
    case hw =>
      apply Walk.cons
      · exact ok_assign rfl rfl rfl
      exact Walk.nil _
    case hck => kernel_rfl
    case hQ =>
      intro ρ A w1 h
      refine wp_seq ?_
      apply seq_dag hmix h
      case hw =>
        apply Walk.cons
        · exact ok_move rfl rfl rfl
        apply Walk.cons
        · exact ok_pure rfl (by kernel_rfl) (v := .bool false) (fun w => by kernel_rfl)
        apply Walk.cons
        · exact ok_move rfl rfl rfl
        apply Walk.cons
        · first | exact ok_skip rfl | exact ok_skip_u rfl | exact o_load31 rfl rfl rfl rfl | exact o_load31op rfl rfl rfl rfl
        apply Walk.cons
        · first | exact ok_skip rfl | exact ok_skip_u rfl | exact ok_call_val rfl rfl fn13 [.v _] rfl (rd := []) (fun _ w _ _ => hpre w)
        apply Walk.cons
        · first | exact ok_skip rfl | exact ok_skip_u rfl | exact ok_not rfl rfl rfl rfl
        apply Walk.cons
        · first | exact ok_pick_true rfl rfl rfl rfl | exact ok_pick_false rfl rfl rfl rfl
        exact Walk.nil _
      case hck => kernel_rfl
      case hQ =>
        intro ρ A w1 h
        refine if_false' h rfl (wp_skip (Exit.then_normal ?_))
        apply seq_dag hmix h
        case hw =>
          apply Walk.cons
          · exact ok_move rfl rfl rfl
          apply Walk.cons
          · first | exact o_load31 rfl rfl rfl rfl | exact o_load31op rfl rfl rfl rfl
          apply Walk.cons
          · exact ok_call_val rfl rfl fn25 [.v _, .v _, .v _] rfl (rd := [0]) (fun ρ w h0 _ => down_no hI v n b hn hb w (h0 0 (by simp) _ rfl).2)
          apply Walk.cons
          · exact ok_assign rfl rfl rfl
          exact Walk.nil _
        case hck => kernel_rfl
        case hQ =>
          intro ρ A w1 h
          refine wp_seq ?_
          cases hq : ids v b (topD n b) with
          | none =>
            rw [hq] at h
            apply seq_dag hmix h
            case hw =>
              apply Walk.cons
              · exact ok_move rfl rfl rfl
              apply Walk.cons
              · exact ok_pure rfl (by kernel_rfl) (v := .bool true) (fun w => by kernel_rfl)
              apply Walk.cons
              · exact ok_move rfl rfl rfl
              apply Walk.cons
              · first | exact ok_skip rfl | exact ok_skip_u rfl | exact ok_move rfl rfl rfl
              apply Walk.cons
              · first | exact ok_skip rfl | exact ok_skip_u rfl | exact ok_nil rfl rfl rfl | exact ok_nil_v rfl rfl rfl
              apply Walk.cons
              · first | exact ok_skip rfl | exact ok_skip_u rfl | exact ok_fld rfl rfl rfl fo64_1 rfl | exact ok_fld_v rfl rfl rfl fo64_1 rfl
              apply Walk.cons
              · first | exact ok_skip rfl | exact ok_skip_u rfl | exact ok_load_cell rfl rfl rfl rfl one4 rfl
              apply Walk.cons
              · first | exact ok_skip rfl | exact ok_skip_u rfl | exact ok_not rfl rfl rfl rfl
              apply Walk.cons
              · first | exact ok_pick_true rfl rfl rfl rfl | exact ok_pick_false rfl rfl rfl rfl
              exact Walk.nil _
            case hck => kernel_rfl
            case hQ =>
              intro ρ A w1 h
              refine if_true' h rfl ?_
              apply seq_dag hmix h
              case hw =>
                apply Walk.cons
                · exact ok_move rfl rfl rfl
                apply Walk.cons
                · exact ok_assign rfl rfl rfl
                apply Walk.cons
                · exact ok_assign rfl rfl rfl
                exact Walk.nil _
              case hck => kernel_rfl
              case hQ =>
                intro ρ A w1 h
                refine wp_ret ?_
                repeat (first | refine Exit.thenRet ?_ | refine Exit.blockRet ?_)
                refine h.result_tmp2 Try.results15 rfl rfl ?_
                exact ⟨rfl, h.below_of (i := 0) rfl (fun _ h => h) hT⟩
          | some q =>
            rw [hq] at h
            have hnode := hI.node _ _ _ _ hq
            have howned : (nodeC ids M v b (topD n b))[2]? = some (.bool false) := by
              show some (Value.bool (M.own v b (topD n b)).isSome) = _
              rw [ho]; rfl
            apply seq_dag hmix h
            case hw =>
              apply Walk.cons
              · exact ok_move rfl rfl rfl
              apply Walk.cons
              · exact ok_pure rfl (by kernel_rfl) (v := .bool false) (fun w => by kernel_rfl)
              apply Walk.cons
              · exact ok_move rfl rfl rfl
              apply Walk.cons
              · first | exact ok_skip rfl | exact ok_skip_u rfl | exact ok_move rfl rfl rfl
              apply Walk.cons
              · first | exact ok_skip rfl | exact ok_skip_u rfl | exact ok_nil rfl rfl rfl | exact ok_nil_v rfl rfl rfl
              apply Walk.cons
              · first | exact ok_skip rfl | exact ok_skip_u rfl | exact ok_fld rfl rfl rfl fo64_1 rfl | exact ok_fld_v rfl rfl rfl fo64_1 rfl
              apply Walk.cons
              · first | exact ok_skip rfl | exact ok_skip_u rfl | exact ok_hload rfl rfl (i := 0) rfl rfl hnode one4 howned
              apply Walk.cons
              · first | exact ok_skip rfl | exact ok_skip_u rfl | exact ok_not rfl rfl rfl rfl
              apply Walk.cons
              · first | exact ok_pick_true rfl rfl rfl rfl | exact ok_pick_false rfl rfl rfl rfl
              exact Walk.nil _
            case hck => kernel_rfl
            case hQ =>
              intro ρ A w1 h
              refine if_true' h rfl ?_
              apply seq_dag hmix h
              case hw =>
                apply Walk.cons
                · exact ok_move rfl rfl rfl
                apply Walk.cons
                · exact ok_assign rfl rfl rfl
                apply Walk.cons
                · exact ok_assign rfl rfl rfl
                exact Walk.nil _
              case hck => kernel_rfl
              case hQ =>
                intro ρ A w1 h
                refine wp_ret ?_
                repeat (first | refine Exit.thenRet ?_ | refine Exit.blockRet ?_)
                refine h.result_tmp2 Try.results15 rfl rfl ?_
                exact ⟨rfl, h.below_of (i := 0) rfl (fun _ h => h) hT⟩
end Go.Proofs.Ytnppgaohfegloaa
