/-
  aditlaw10.RouteNil: what it hands back is true, for any prefix.
-/
import Derived.Test.YtnppgaohfegloaaRange
namespace Go.Proofs.Ytnppgaohfegloaa
open Go.RowKit

section
variable {F : Fr} {ops : Array Oper} {S : St} {o : Oper}
/-- a function value that has caught a block -/
def fnv (i : Nat) : AV := ⟨some i, fun b => .func (.func 32) #[] #[.pointer (some ⟨b, 0, none⟩)]⟩
theorem run_eqfn (x y : Operand) (ad : Addr) (w : World) : (do eqGuard .eql 53 x y (.func (.func 32) #[] #[.pointer (some ad)]) .nilFunc; binOp .eql 53 (.func (.func 32) #[] #[.pointer (some ad)]) .nilFunc : Sem Value).run Try.prog w = .ok (.bool false) w := by kernel_rfl
theorem o_fnnil (hw : want ops S o = some true) {t' : TypeId} {x y : Operand} (ho : o.op = .binOp .eql 53 x y t') {i : Nat} (hx : S.av x = some (fnv i)) (hy : S.av y = some (.v .nilFunc)) : OpOK Try.prog F ops o S { val := .v (.bool false) } :=
  ok_value hw fun ρ a w h1 _ _ => by
    have e1 : a.eval x = .func (.func 32) #[] #[.pointer (some ⟨ρ i, 0, none⟩)] := h1 x (by simp [ho, Op.operands]) _ hx
    have e2 : a.eval y = .nilFunc := h1 y (by simp [ho, Op.operands]) _ hy
    have := run_eqfn x y ⟨ρ i, 0, none⟩ w
    simp only [execOp, ho, e1, e2] at this ⊢
    rw [Sem.run_bind, this]
    rfl
theorem ok_makeFunc (hw : want ops S o = some true) {x : Operand} (ho : o.op = .makeFunc (.func 32) #[] #[x]) {i : Nat} (hx : S.av x = some (.p i 0)) : OpOK Try.prog F ops o S { val := fnv i } :=
  ok_value hw fun ρ a w h1 _ _ => by
    have e1 : a.eval x = .pointer (some ⟨ρ i, 0, none⟩) := h1 x (by simp [ho, Op.operands]) _ hx
    simp [execOp, ho, e1, Instr.makeFunc, fnv, AV.to]
end
theorem zero68 : tZero Try.prog 68 = some (.slice none 0 0) := by kernel_rfl
theorem zero4 : tZero Try.prog 4 = some (.bool false) := by kernel_rfl
theorem one68 : tOne Try.prog 68 = true := by kernel_rfl
theorem u68 : ∃ e, Try.prog.underlying 68 = some (.slice e) := ⟨_, Try.underlying68⟩
theorem drop_nil (v : Bool) (n : Nat) (b : Int) (w : World) : Calls Try.prog 15 #[.pointer none, .agg (pfc v n b)] w fun e w' => e = .returned (.tuple #[.int .i64 0, .bool false]) ∧ Below w.heap.size w w' := by
  go_enter Try.func15, Try.ntmps15
  have h := Rep.start (N := 49) [.pointer none, .agg (pfc v n b)] [undef, undef, undef, undef, undef, undef, undef, undef, undef, undef, undef, undef, undef, undef, undef, undef, undef, undef, undef, undef, undef, undef, undef, undef, undef, undef, undef, undef, undef, undef, undef, undef, undef, undef, undef, undef, undef, undef, undef, undef, undef, undef, undef, undef, undef, undef, undef] w rfl
  apply seq_dag hmix h
  case hw =>
    apply Walk.cons
    · exact o_box31 3 rfl rfl rfl
    apply Walk.cons
    · exact ok_assign rfl rfl rfl
    apply Walk.cons
    · exact ok_assign rfl rfl rfl
    exact Walk.nil _
  case hck => kernel_rfl
  case hQ =>
    intro ρ A w1 h
    apply seq_dag hmix h
    case hw =>
      apply Walk.cons
      · exact ok_assign rfl rfl rfl
      exact Walk.nil _
    case hck => kernel_rfl
    case hQ =>
      intro ρ A w1 h
      refine wp_seq ?_
      apply seq_dag hmix h
      case hw =>
        apply Walk.cons
        · exact ok_move rfl rfl rfl
        apply Walk.cons
        · exact ok_pure rfl (by kernel_rfl) (v := .bool true) (fun w => by kernel_rfl)
        apply Walk.cons
        · exact ok_move rfl rfl rfl
        apply Walk.cons
        · first | exact ok_skip rfl | exact ok_skip_u rfl | exact o_load31 rfl rfl rfl rfl | exact o_load31op rfl rfl rfl rfl
        apply Walk.cons
        · first | exact ok_skip rfl | exact ok_skip_u rfl
        apply Walk.cons
        · first | exact ok_skip rfl | exact ok_skip_u rfl | exact ok_not rfl rfl rfl rfl
        apply Walk.cons
        · first | exact ok_pick_true rfl rfl rfl rfl | exact ok_pick_false rfl rfl rfl rfl
        exact Walk.nil _
      case hck => kernel_rfl
      case hQ =>
        intro ρ A w1 h
        refine if_true' h rfl ?_
        apply seq_dag hmix h
        case hw =>
          apply Walk.cons
          · exact ok_move rfl rfl rfl
          apply Walk.cons
          · exact ok_assign rfl rfl rfl
          apply Walk.cons
          · exact ok_assign rfl rfl rfl
          exact Walk.nil _
        case hck => kernel_rfl
        case hQ =>
          intro ρ A w1 h
          refine wp_ret ?_
          repeat (first | refine Exit.thenRet ?_ | refine Exit.blockRet ?_)
          refine h.result_tmp2 Try.results15 rfl rfl ?_
          exact ⟨rfl, h.below⟩
theorem find_nil (v : Bool) (n : Nat) (w : World) : Calls Try.prog 11 #[.pointer none, .agg (adc v n)] w fun e w' => e = .returned (fdRes v n none) ∧ Below w.heap.size w w' := by
  go_enter Try.func11, Try.ntmps11
  have h := Rep.start (N := 78) [.pointer none, .agg (adc v n)] [undef, undef, undef, undef, undef, undef, undef, undef, undef, undef, undef, undef, undef, undef, undef, undef, undef, undef, undef, undef, undef, undef, undef, undef, undef, undef, undef, undef, undef, undef, undef, undef, undef, undef, undef, undef, undef, undef, undef, undef, undef, undef, undef, undef, undef, undef, undef, undef, undef, undef, undef, undef, undef, undef, undef, undef, undef, undef, undef, undef, undef, undef, undef, undef, undef, undef, undef, undef, undef, undef, undef, undef, undef, undef, undef, undef] w rfl
  apply seq_dag hmix h
  case hw =>
    apply Walk.cons
    · exact o_box24 3 rfl rfl rfl
    apply Walk.cons
    · exact ok_assign rfl rfl rfl
    apply Walk.cons
    · exact o_alloc31 5 rfl rfl
    apply Walk.cons
    · exact ok_assign rfl rfl rfl
    exact Walk.nil _
  case hck => kernel_rfl
  case hQ =>
    intro ρ A w1 h
    apply seq_dag hmix h
    case hw =>
      apply Walk.cons
      · exact ok_assign rfl rfl rfl
      exact Walk.nil _
    case hck => kernel_rfl
    case hQ =>
      intro ρ A w1 h
      apply seq_dag hmix h
      case hw =>
        apply Walk.cons
        · exact o_alloc31 8 rfl rfl
        exact Walk.nil _
      case hck => kernel_rfl
      case hQ =>
        intro ρ A w1 h
        apply seq_dag hmix h
        case hw =>
          apply Walk.cons
          · exact ok_assign rfl rfl rfl
          exact Walk.nil _
        case hck => kernel_rfl
        case hQ =>
          intro ρ A w1 h
          refine wp_seq ?_
          apply seq_dag hmix h
          case hw =>
            apply Walk.cons
            · exact ok_move rfl rfl rfl
            apply Walk.cons
            · exact ok_pure rfl (by kernel_rfl) (v := .bool true) (fun w => by kernel_rfl)
            apply Walk.cons
            · exact ok_move rfl rfl rfl
            apply Walk.cons
            · first | exact ok_skip rfl | exact ok_skip_u rfl | exact o_load24 rfl rfl rfl rfl | exact o_load24p rfl rfl rfl rfl
            apply Walk.cons
            · first | exact ok_skip rfl | exact ok_skip_u rfl
            apply Walk.cons
            · first | exact ok_skip rfl | exact ok_skip_u rfl | exact ok_not rfl rfl rfl rfl
            apply Walk.cons
            · first | exact ok_pick_true rfl rfl rfl rfl | exact ok_pick_false rfl rfl rfl rfl
            exact Walk.nil _
          case hck => kernel_rfl
          case hQ =>
            intro ρ A w1 h
            refine if_true' h rfl ?_
            apply seq_dag hmix h
            case hw =>
              apply Walk.cons
              · exact ok_move rfl rfl rfl
              apply Walk.cons
              · first | exact o_load31 rfl rfl rfl rfl | exact o_load31op rfl rfl rfl rfl
              apply Walk.cons
              · exact ok_assign rfl rfl rfl
              apply Walk.cons
              · exact o_store31 rfl rfl rfl rfl rfl
              apply Walk.cons
              · exact ok_assign rfl rfl rfl
              exact Walk.nil _
            case hck => kernel_rfl
            case hQ =>
              intro ρ A w1 h
              refine wp_ret ?_
              repeat (first | refine Exit.thenRet ?_ | refine Exit.blockRet ?_)
              refine h.result_tct Try.results11 rfl rfl rfl agg31 sz31 rfl rfl ?_
              exact ⟨rfl, h.below⟩
theorem put_nil (v : Bool) (n : Nat) (b o : Int) (w : World) : Calls Try.prog 10 #[.pointer none, .agg (pfc v n b), .int .i64 o] w fun e w' => e = .returned (.int .i64 1) ∧ Below w.heap.size w w' := by
  go_enter Try.func10, Try.ntmps10
  have h := Rep.start (N := 49) [.pointer none, .agg (pfc v n b), .int .i64 o] [undef, undef, undef, undef, undef, undef, undef, undef, undef, undef, undef, undef, undef, undef, undef, undef, undef, undef, undef, undef, undef, undef, undef, undef, undef, undef, undef, undef, undef, undef, undef, undef, undef, undef, undef, undef, undef, undef, undef, undef, undef, undef, undef, undef, undef, undef] w rfl
  apply seq_dag hmix h
  case hw =>
    apply Walk.cons
    · exact o_box31 4 rfl rfl rfl
    apply Walk.cons
    · exact ok_assign rfl rfl rfl
    exact Walk.nil _
  case hck => kernel_rfl
  case hQ =>
    intro ρ A w1 h
    refine wp_seq (wp_block ?_)
    apply seq_dag hmix h
    case hw =>
      apply Walk.cons
      · exact ok_move rfl rfl rfl
      apply Walk.cons
      · exact ok_pure rfl (by kernel_rfl) (v := .bool true) (fun w => by kernel_rfl)
      apply Walk.cons
      · exact ok_assign rfl rfl rfl
      exact Walk.nil _
    case hck => kernel_rfl
    case hQ =>
      intro ρ A w1 h
      refine if_true' h rfl ?_
      apply seq_dag hmix h
      case hw =>
        apply Walk.cons
        · exact ok_assign rfl rfl rfl
        exact Walk.nil _
      case hck => kernel_rfl
      case hQ =>
        intro ρ A w1 h
        refine wp_ret ?_
        repeat (first | refine Exit.thenRet ?_ | refine Exit.blockRet ?_)
        refine h.result_tmp Try.results10 rfl ?_
        exact ⟨rfl, h.below⟩
theorem len_nil (w : World) : Calls Try.prog 12 #[.pointer none] w fun e w' => e = .returned (.int .i64 0) ∧ Below w.heap.size w w' := by
  go_enter Try.func12, Try.ntmps12
  have h := Rep.start (N := 9) [.pointer none] [undef, undef, undef, undef, undef, undef, undef, undef] w rfl
  apply seq_dag hmix h
  case hw =>
    apply Walk.cons
    · exact ok_assign rfl rfl rfl
    exact Walk.nil _
  case hck => kernel_rfl
  case hQ =>
    intro ρ A w1 h
    refine wp_seq ?_
    apply seq_dag hmix h
    case hw =>
      apply Walk.cons
      · exact ok_move rfl rfl rfl
      apply Walk.cons
      · exact ok_pure rfl (by kernel_rfl) (v := .bool true) (fun w => by kernel_rfl)
      exact Walk.nil _
    case hck => kernel_rfl
    case hQ =>
      intro ρ A w1 h
      refine if_true' h rfl ?_
      apply seq_dag hmix h
      case hw =>
        apply Walk.cons
        · exact ok_assign rfl rfl rfl
        exact Walk.nil _
      case hck => kernel_rfl
      case hQ =>
        intro ρ A w1 h
        refine wp_ret ?_
        repeat (first | refine Exit.thenRet ?_ | refine Exit.blockRet ?_)
        refine h.result_tmp Try.results12 rfl ?_
        exact ⟨rfl, h.below⟩
theorem all_nil (w : World) : Calls Try.prog 17 #[.pointer none] w fun e w' => ∃ q, e = .returned (.func (.func 32) #[] #[.pointer (some ⟨q, 0, none⟩)]) ∧ hp w' q = some (cobj #[.slice none 0 0] 68) ∧ w.heap.size ≤ q ∧ Below w.heap.size w w' := by
  go_enter Try.func17, Try.ntmps17
  have h := Rep.start (N := 25) [.pointer none] [undef, undef, undef, undef, undef, undef, undef, undef, undef, undef, undef, undef, undef, undef, undef, undef, undef, undef, undef, undef, undef, undef, undef, undef] w rfl
  apply seq_dag hmix h
  case hw =>
    apply Walk.cons
    · exact ok_assign rfl rfl rfl
    exact Walk.nil _
  case hck => kernel_rfl
  case hQ =>
    intro ρ A w1 h
    apply seq_dag hmix h
    case hw =>
      apply Walk.cons
      · exact ok_alloc 3 rfl rfl zero68 (cs := #[.slice none 0 0]) rfl
      exact Walk.nil _
    case hck => kernel_rfl
    case hQ =>
      intro ρ A w1 h
      refine wp_seq ?_
      apply seq_dag hmix h
      case hw =>
        apply Walk.cons
        · exact ok_move rfl rfl rfl
        apply Walk.cons
        · exact ok_pure rfl (by kernel_rfl) (v := .bool false) (fun w => by kernel_rfl)
        exact Walk.nil _
      case hck => kernel_rfl
      case hQ =>
        intro ρ A w1 h
        refine if_false' h rfl (wp_skip (Exit.then_normal ?_))
        apply seq_dag hmix h
        case hw =>
          apply Walk.cons
          · exact ok_makeFunc rfl rfl rfl
          apply Walk.cons
          · exact ok_assign rfl rfl rfl
          exact Walk.nil _
        case hck => kernel_rfl
        case hQ =>
          intro ρ A w1 h
          have hm := h.mem 3 _ rfl
          have ho := h.own 3 _ rfl (ρ.num 3) (by rw [hm.2])
          refine wp_ret ?_
          refine h.result_av Try.results17 rfl ?_
          refine ⟨ρ.num 3, rfl, hm.1, ?_, h.below⟩
          rcases ho with h1 | h1
          · exact h1
          · exact h1.elim
theorem seq_nil (l q : Nat) (w : World) (hq : hp w q = some (cobj #[.slice none 0 0] 68)) : Calls Try.prog 32 (#[.func (.yield l) #[] #[]] ++ #[.pointer (some ⟨q, 0, none⟩)]) w fun e w' => (∃ v, e = .returned v) ∧ Below w.heap.size w w' := by
  have hc : w.cell? ⟨q, 0, none⟩ = some (.slice none 0 0) := by rw [cell_of_obj hq]; rfl
  go_enter Try.func32, Try.ntmps32
  have h := Rep.start (N := 19) [.func (.yield l) #[] #[], .pointer (some ⟨q, 0, none⟩)] [undef, undef, undef, undef, undef, undef, undef, undef, undef, undef, undef, undef, undef, undef, undef, undef, undef] w rfl
  apply seq_dag hmix h
  case hw =>
    apply Walk.cons
    · exact ok_load_cell_ro rfl rfl rfl (fun h => h) one68 hc
    apply Walk.cons
    · exact ok_len_ro rfl rfl rfl Try.underlying68
    apply Walk.cons
    · exact ok_move rfl rfl rfl
    exact Walk.nil _
  case hck => kernel_rfl
  case hQ =>
    intro ρ A w1 h
    refine wp_block ?_
    refine rep_loop 0 (fun _ => (⟨[(6, .v (.int .i64 0)), (7, .v (.int .i64 0))], []⟩ : St)) (h.plain _ ⟨rfl, rfl, trivial⟩ trivial rfl) ?_
    clear h
    intro _ ρ A w2 _ h
    apply seq_dag hmix h
    case hw =>
      apply Walk.cons
      · exact o_bin rfl rfl rfl rfl (r_lssi (decide_eq_false (by decide)))
      exact Walk.nil _
    case hck => kernel_rfl
    case hQ =>
      intro ρ A w1 h
      refine wp_seq ?_
      refine if_false' h rfl (wp_exit ?_)
      repeat (first | refine Exit.thenExit ?_ | refine Exit.blockExitNe (by decide) ?_)
      refine Exit.blockExit ?_
      refine ⟨h.defers, _, by simp [results, Try.results32]; rfl, ⟨_, rfl⟩, h.below⟩
theorem fdA_nil (v : Bool) (n : Nat) : fdA Tab.nil v n = none := by
  unfold fdA
  split
  · exact bestTo_more (i := 0) _ (fun _ _ _ => rfl) (Nat.zero_le _)
  · rfl
def nz : Tab := Tab.nil.put false (four4 1 1) 8 1
theorem nz_not : ¬ Tab.nil.full false (four4 1 1) 8 := fun h => absurd h.2 (by decide)
theorem nz_cnt : nz.cnt = 1 := by decide +kernel
section
variable {F : Fr} {ops : Array Oper} {S : St} {o : Oper}
theorem o_findN (hw : want ops S o = some true) {args : Array Operand} {ts : Array TypeId} (ho : o.op = .call { callee := .value (.func 11), args := args, argTypes := ts }) {i n : Nat} {M : Tab} {v : Bool}
    (ha : args.toList.mapM S.av = some [.p i 0, .v (.agg (adc v n))]) (hb : S.blk i = some (.ext (tabA M))) (hn : n < 2 ^ 128) {r : Option (Nat × Int)} (hr : fdA M v n = r) :
    OpOK Try.prog F ops o S { val := .v (fdRes v n r), rd := [i] } := by
  subst hr
  exact o_findV hw ho ha hb hn
theorem o_all_nil (i : Nat) (hw : want ops S o = some true) {args : Array Operand} {ts : Array TypeId} (ho : o.op = .call { callee := .value (.func 17), args := args, argTypes := ts }) (ha : args.toList.mapM S.av = some [.v (.pointer none)]) :
    OpOK Try.prog F ops o S { val := fnv i, new := some (i, .mk #[.slice none 0 0] 68) } :=
  ok_call hw ho fn17 _ ha fun ρ w _ _ => (all_nil w).mono fun en w' h => by
    obtain ⟨q, rfl, h1, h2, h3⟩ := h
    exact ⟨_, ⟨q, fun _ => False, fun n => n = q⟩, rfl, by simp [fnv, AV.to, upd], h3.os, h3.tape, h3.output, h3.size, fun b hb _ => h3.block b hb, (fun _ h => by cases h), (fun y hy => by cases hy; exact ⟨⟨h1, rfl⟩, fun b hb => by rw [show b = q from hb]; exact h2⟩), (fun _ _ h => by cases h)⟩
end
set_option maxRecDepth 20000 in
set_option maxHeartbeats 1000000 in
theorem law7_any (v : Bool) (n : Nat) (b : Int) (hn : n < 2 ^ 128) (w : World) : Calls Try.prog 7 #[.agg (pfc v n b)] w fun e w' => e = .returned (.bool true) ∧ Below w.heap.size w w' := by
  refine calls_of_wp_marks Try.func7 rfl ?_
  simp only [Try.ntmps7, List.size_toArray, List.length_cons, List.length_nil, Nat.reduceAdd, Nat.reduceSub, Array.replicate_succ, Array.replicate_zero, List.push_toArray, List.append_toArray, List.nil_append, List.cons_append]
  have h := Rep.start (N := 80) [.agg (pfc v n b)] [undef, undef, undef, undef, undef, undef, undef, undef, undef, undef, undef, undef, undef, undef, undef, undef, undef, undef, undef, undef, undef, undef, undef, undef, undef, undef, undef, undef, undef, undef, undef, undef, undef, undef, undef, undef, undef, undef, undef, undef, undef, undef, undef, undef, undef, undef, undef, undef, undef, undef, undef, undef, undef, undef, undef, undef, undef, undef, undef, undef, undef, undef, undef, undef, undef, undef, undef, undef, undef, undef, undef, undef, undef, undef, undef, undef, undef, undef, undef] w rfl
  apply seq_dag hmix h
  case hw =>
    apply Walk.cons
    · exact o_box31 1 rfl rfl rfl
    apply Walk.cons
    · exact ok_alloc 2 rfl rfl zero4 (cs := #[.bool false]) rfl
    exact Walk.nil _
  case hck => kernel_rfl
  case hQ =>
    intro ρ A w1 h
    apply seq_dag hmix h
    case hw =>
      apply Walk.cons
      · exact ok_assign rfl rfl rfl
      exact Walk.nil _
    case hck => kernel_rfl
    case hQ =>
      intro ρ A w1 h
      apply seq_dag hmix h
      case hw =>
        apply Walk.cons
        · exact o_built rfl rfl (by kernel_rfl) (v := .agg (tbc (.pointer none) (.pointer none) 0)) (fun w => by kernel_rfl)
        apply Walk.cons
        · exact ok_box 15 rfl rfl rfl rfl (cs := tbc (.pointer none) (.pointer none) 0)
        apply Walk.cons
        · exact ok_assign rfl rfl rfl
        exact Walk.nil _
      case hck => kernel_rfl
      case hQ =>
        intro ρ A w1 h
        have h := h.plain ⟨[(1, .p 1 0), (2, .p 2 0), (3, .v (.pointer none)), (4, .p 15 0)], [(15, .mk (tbc (.pointer none) (.pointer none) 0) 60), (1, .mk (pfc v n b) 31), (2, .mk #[.bool false] 4)]⟩ ⟨rfl, rfl, rfl, rfl, trivial⟩ ⟨rfl, rfl, rfl, trivial⟩ rfl
        have h := h.recast (b' := .ext (tabA Tab.nil)) (fun _ _ _ hx => tab_nil_of hx)
        apply seq_dag hmix h
        case hw =>
          apply Walk.cons
          · exact ok_move rfl rfl rfl
          apply Walk.cons
          · first | exact o_load31 rfl rfl rfl rfl | exact o_load31op rfl rfl rfl rfl
          apply Walk.cons
          · exact ok_call_val rfl rfl fn15 [.v _, .v _] rfl (rd := []) (fun _ w _ _ => drop_nil _ _ _ w)
          apply Walk.cons
          · exact ok_move rfl rfl rfl
          apply Walk.cons
          · exact ok_extract rfl rfl rfl rfl
          apply Walk.cons
          · exact ok_extract rfl rfl rfl rfl
          apply Walk.cons
          · exact ok_assign rfl rfl rfl
          apply Walk.cons
          · exact ok_assign rfl rfl rfl
          exact Walk.nil _
        case hck => kernel_rfl
        case hQ =>
          intro ρ A w1 h
          apply seq_dag hmix h
          case hw =>
            apply Walk.cons
            · exact ok_move rfl rfl rfl
            apply Walk.cons
            · first | exact ok_fld rfl rfl rfl fo31_0 rfl | exact ok_fld_v rfl rfl rfl fo31_0 rfl
            apply Walk.cons
            · exact o_load24p rfl rfl rfl rfl
            apply Walk.cons
            · exact ok_call_val rfl rfl fn11 [.v _, .v _] rfl (rd := []) (fun _ w _ _ => find_nil _ _ w)
            apply Walk.cons
            · exact ok_move rfl rfl rfl
            apply Walk.cons
            · exact ok_extract rfl rfl rfl rfl
            apply Walk.cons
            · exact ok_extract rfl rfl rfl rfl
            apply Walk.cons
            · exact ok_extract rfl rfl rfl rfl
            apply Walk.cons
            · exact o_alloc31 8 rfl rfl
            apply Walk.cons
            · exact ok_assign rfl rfl rfl
            apply Walk.cons
            · exact o_store31 rfl rfl rfl rfl rfl
            apply Walk.cons
            · exact ok_assign rfl rfl rfl
            exact Walk.nil _
          case hck => kernel_rfl
          case hQ =>
            intro ρ A w1 h
            apply seq_dag hmix h
            case hw =>
              apply Walk.cons
              · exact ok_move rfl rfl rfl
              apply Walk.cons
              · exact o_all_nil 31 rfl rfl rfl
              apply Walk.cons
              · exact ok_assign rfl rfl rfl
              exact Walk.nil _
            case hck => kernel_rfl
            case hQ =>
              intro ρ A w1 h
              apply seq_dag hmix h
              case hw =>
                apply Walk.cons
                · exact ok_move rfl rfl rfl
                apply Walk.cons
                · first | exact ok_fld rfl rfl rfl fo31_0 rfl | exact ok_fld_v rfl rfl rfl fo31_0 rfl
                apply Walk.cons
                · exact o_load24p rfl rfl rfl rfl
                apply Walk.cons
                · exact o_findN (n := n) (v := v) (M := Tab.nil) rfl rfl rfl rfl hn (fdA_nil v n)
                apply Walk.cons
                · exact ok_move rfl rfl rfl
                apply Walk.cons
                · exact ok_extract rfl rfl rfl rfl
                apply Walk.cons
                · exact ok_extract rfl rfl rfl rfl
                apply Walk.cons
                · exact ok_extract rfl rfl rfl rfl
                apply Walk.cons
                · exact o_alloc31 12 rfl rfl
                apply Walk.cons
                · exact ok_assign rfl rfl rfl
                apply Walk.cons
                · exact o_store31 rfl rfl rfl rfl rfl
                apply Walk.cons
                · exact ok_assign rfl rfl rfl
                exact Walk.nil _
              case hck => kernel_rfl
              case hQ =>
                intro ρ A w1 h
                refine wp_seq ?_
                apply seq_dag hmix h
                case hw =>
                  apply Walk.cons
                  · exact ok_move rfl rfl rfl
                  apply Walk.cons
                  · exact o_fnnil rfl rfl rfl rfl
                  exact Walk.nil _
                case hck => kernel_rfl
                case hQ =>
                  intro ρ A w1 h
                  refine if_false' h rfl (wp_skip (Exit.then_normal ?_))
                  refine wp_seq ?_
                  apply seq_dag hmix h
                  case hw =>
                    apply Walk.cons
                    · exact ok_move rfl rfl rfl
                    exact Walk.nil _
                  case hck => kernel_rfl
                  case hQ =>
                    intro ρ A w1 h
                    have h := h.plain ⟨[(1, .p 1 0), (2, .p 2 0), (3, .v (.pointer none)), (4, .p 15 0), (6, .v (.bool false)), (9, .v (.bool false)), (13, .v (.bool false)), (42, fnv 31)], [(15, .ext (tabA Tab.nil)), (1, .mk (pfc v n b) 31), (2, .mk #[.bool false] 4), (31, .mk #[.slice none 0 0] 68)]⟩ ⟨rfl, rfl, rfl, rfl, rfl, rfl, rfl, rfl, trivial⟩ ⟨rfl, rfl, rfl, rfl, trivial⟩ rfl
                    refine wp_block ?_
                    have hq := (h.mem 31 _ rfl).1
                    have hqlt := lt_of_hp hq
                    refine wp_range0 (gf := 32) (lb := #[.pointer (some ⟨ρ.num 31, 0, none⟩)]) (h.eval_tmp (t := 42) (av := fnv 31) rfl) fn32 (fun l w2 hold => seq_nil l (ρ.num 31) w2 (Eq.trans (hold _ hqlt) hq)) ?_
                    intro D w3 hD hD3 hbl
                    have hD0 : w.heap.size ≤ D := Nat.le_trans h.keeps.size hD
                    have h := h.mark hD hD3 hbl 95 rfl [(1, .p 1 0), (2, .p 2 0), (3, .v (.pointer none)), (4, .p 15 0), (6, .v (.bool false)), (9, .v (.bool false)), (13, .v (.bool false))] [(15, .ext (tabA Tab.nil)), (1, .mk (pfc v n b) 31), (2, .mk #[.bool false] 4)] ⟨rfl, rfl, rfl, rfl, rfl, rfl, rfl, trivial⟩ ⟨rfl, rfl, rfl, trivial⟩ rfl rfl
                    refine Exit.block_normal (Exit.then_normal ?_)
                    refine seq_list ?_
                    refine wpl_stepG h (ok_call_val rfl rfl fn8 [] rfl (rd := []) (fun ρ w _ _ => awake_any w)) rfl rfl rfl rfl ?_
                    intro ρ A w5 h
                    refine wpl_stepG h (ok_move rfl rfl rfl) rfl rfl rfl rfl ?_
                    intro ρ A w5 h
                    refine wpl_stepG h (ok_move rfl rfl rfl) rfl rfl rfl rfl ?_
                    intro ρ A w5 h
                    refine wpl_stepG h (o_load31 rfl rfl rfl rfl) rfl rfl rfl rfl ?_
                    intro ρ A w5 h
                    refine wpl_stepG h (ok_call_val rfl rfl fn10 [.v _, .v _, .v _] rfl (rd := []) (fun _ w _ _ => put_nil _ _ _ _ w)) rfl rfl rfl rfl ?_
                    intro ρ A w5 h
                    refine wpl_stepG h (o_bin rfl rfl rfl rfl (r_eqlz (decide_eq_true rfl))) rfl rfl rfl rfl ?_
                    intro ρ A w5 h
                    refine wpl_stepG h (ok_pick_true rfl rfl rfl rfl) rfl rfl rfl rfl ?_
                    intro ρ A w5 h
                    refine wpl_stepG h (ok_move rfl rfl rfl) rfl rfl rfl rfl ?_
                    intro ρ A w5 h
                    refine wpl_stepG h (ok_move rfl rfl rfl) rfl rfl rfl rfl ?_
                    intro ρ A w5 h
                    refine wpl_stepG h (ok_not rfl rfl rfl rfl) rfl rfl rfl rfl ?_
                    intro ρ A w5 h
                    refine wpl_stepG h (ok_pick_true rfl rfl rfl rfl) rfl rfl rfl rfl ?_
                    intro ρ A w5 h
                    refine wpl_stepG h (ok_move rfl rfl rfl) rfl rfl rfl rfl ?_
                    intro ρ A w5 h
                    refine wpl_stepG h (ok_move rfl rfl rfl) rfl rfl rfl rfl ?_
                    intro ρ A w5 h
                    refine wpl_stepG h (ok_not rfl rfl rfl rfl) rfl rfl rfl rfl ?_
                    intro ρ A w5 h
                    refine wpl_stepG h (ok_pick_true rfl rfl rfl rfl) rfl rfl rfl rfl ?_
                    intro ρ A w5 h
                    refine wpl_stepG h (ok_move rfl rfl rfl) rfl rfl rfl rfl ?_
                    intro ρ A w5 h
                    refine wpl_stepG h (ok_move rfl rfl rfl) rfl rfl rfl rfl ?_
                    intro ρ A w5 h
                    refine wpl_stepG h (ok_not rfl rfl rfl rfl) rfl rfl rfl rfl ?_
                    intro ρ A w5 h
                    refine wpl_stepG h (ok_pick_true rfl rfl rfl rfl) rfl rfl rfl rfl ?_
                    intro ρ A w5 h
                    refine wpl_stepG h (ok_move rfl rfl rfl) rfl rfl rfl rfl ?_
                    intro ρ A w5 h
                    refine wpl_stepG h (ok_move rfl rfl rfl) rfl rfl rfl rfl ?_
                    intro ρ A w5 h
                    refine wpl_stepG h (ok_call_val rfl rfl fn12 [.v _] rfl (rd := []) (fun _ w _ _ => len_nil w)) rfl rfl rfl rfl ?_
                    intro ρ A w5 h
                    refine wpl_stepG h (o_bin rfl rfl rfl rfl (r_eqlz (decide_eq_true rfl))) rfl rfl rfl rfl ?_
                    intro ρ A w5 h
                    refine wpl_stepG h (ok_pick_true rfl rfl rfl rfl) rfl rfl rfl rfl ?_
                    intro ρ A w5 h
                    refine wpl_stepG h (ok_move rfl rfl rfl) rfl rfl rfl rfl ?_
                    intro ρ A w5 h
                    refine wpl_stepG h (ok_move rfl rfl rfl) rfl rfl rfl rfl ?_
                    intro ρ A w5 h
                    refine wpl_stepG h (o_four (a := 1) (b := 1) (k := 8) rfl rfl rfl (by decide) (by decide)) rfl rfl rfl rfl ?_
                    intro ρ A w5 h
                    refine wpl_stepG h (o_put_ok (n := four4 1 1) (b := 8) (M := Tab.nil) rfl rfl rfl rfl (by decide +kernel) (by decide +kernel) nz_not) rfl rfl rfl rfl ?_
                    intro ρ A w5 h
                    refine wpl_stepG h (o_bin rfl rfl rfl rfl (r_eqlz (decide_eq_true rfl))) rfl rfl rfl rfl ?_
                    intro ρ A w5 h
                    refine wpl_stepG h (ok_pick_true rfl rfl rfl rfl) rfl rfl rfl rfl ?_
                    intro ρ A w5 h
                    refine wpl_stepG h (ok_move rfl rfl rfl) rfl rfl rfl rfl ?_
                    intro ρ A w5 h
                    refine wpl_stepG h (ok_move rfl rfl rfl) rfl rfl rfl rfl ?_
                    intro ρ A w5 h
                    refine wpl_stepG h (o_len (M := nz) (c := 1) rfl rfl rfl rfl nz_cnt) rfl rfl rfl rfl ?_
                    intro ρ A w5 h
                    refine wpl_stepG h (o_bin rfl rfl rfl rfl (r_eqlz (decide_eq_true rfl))) rfl rfl rfl rfl ?_
                    intro ρ A w5 h
                    refine wpl_stepG h (ok_pick_true rfl rfl rfl rfl) rfl rfl rfl rfl ?_
                    intro ρ A w5 h
                    refine wpl_stepG h (ok_store_cell rfl rfl rfl rfl rfl sz4 rfl (by decide) rfl) rfl rfl rfl rfl ?_
                    intro ρ A w5 h
                    refine wpList_nil ?_
                    refine Exit.then_normal ?_
                    refine wp_ret ?_
                    exact h.result_marks (k := 95) Try.results7 rfl rfl one4 rfl rfl rfl (fun w' hb => ⟨rfl, hb⟩) hD0
end Go.Proofs.Ytnppgaohfegloaa
