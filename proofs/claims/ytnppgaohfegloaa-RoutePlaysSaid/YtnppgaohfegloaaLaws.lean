/-
  Calls of a table inside the laws; what 'awake' of the law file hands back.
-/
import Derived.Test.YtnppgaohfegloaaFind
namespace Go.Proofs.Ytnppgaohfegloaa
open Go.RowKit

section
variable {F : Fr} {ops : Array Oper} {S : St} {o : Oper}
theorem run_eqnil {t : TypeId} (ht : t = 26 ∨ t = 57) (x y : Operand) (ad : Addr) (w : World) : (do eqGuard .eql t x y (.pointer (some ad)) (.pointer none); binOp .eql t (.pointer (some ad)) (.pointer none) : Sem Value).run Try.prog w = .ok (.bool false) w := by
  rcases ht with rfl | rfl
  · kernel_rfl
  · kernel_rfl
theorem o_nonnil (hw : want ops S o = some true) {t t' : TypeId} {x y : Operand} (ho : o.op = .binOp .eql t x y t') (ht : t = 26 ∨ t = 57) {i off : Nat} (hx : S.av x = some (.p i off)) (hy : S.av y = some (.v (.pointer none))) : OpOK Try.prog F ops o S { val := .v (.bool false) } :=
  ok_value hw fun ρ a w h1 _ _ => by
    have e1 := h1 x (by simp [ho, Op.operands]) _ hx
    have e2 := h1 y (by simp [ho, Op.operands]) _ hy
    have := run_eqnil ht x y ⟨ρ i, off, none⟩ w
    simp only [execOp, ho, e1, e2, AV.to_v, AV.to_p] at this ⊢
    rw [Sem.run_bind, this]
    rfl
theorem o_new (i : Nat) (hw : want ops S o = some true) {ts : Array TypeId} (ho : o.op = .call { callee := .value (.func 9), args := #[], argTypes := ts }) : OpOK Try.prog F ops o S { val := .p i 0, new := some (i, .ext (tabA Tab.nil)) } :=
  ok_call hw ho fn9 [] rfl fun ρ w _ _ => (new_any w).mono fun en w' h => by
    obtain ⟨q, f, rfl, h1, h2, h3⟩ := h
    exact ⟨_, ⟨q, fun _ => False, f⟩, rfl, by simp [AV.p, AV.to, upd], h3.os, h3.tape, h3.output, h3.size, fun b hb _ => h3.block b hb, (fun _ h => by cases h), fun y hy => by cases hy; exact ⟨h1, h2⟩, (fun _ _ h => by cases h)⟩
theorem o_put_ok (hw : want ops S o = some true) {args : Array Operand} {ts : Array TypeId} (ho : o.op = .call { callee := .value (.func 10), args := args, argTypes := ts }) {i n b : Nat} {M : Tab} {v : Bool} {z : Int}
    (ha : args.toList.mapM S.av = some [.p i 0, .v (.agg (pfc v n (b : Nat))), .v (.int .i64 z)]) (hb : S.blk i = some (.ext (tabA M))) (hn : n < 2 ^ 128) (hp' : isPfx v n (b : Nat) = true) (hf : ¬ M.full v n b) :
    OpOK Try.prog F ops o S { val := .v (.int .i64 0), wr := some (i, .ext (tabA (M.put v n b z))), rd := [i] } :=
  ok_call hw ho fn10 _ ha fun ρ w h1 _ => (put_yes v n b z hn hp' w (h1 i (by simp) _ hb)).mono fun en w' h => by
    rcases h with ⟨h, _⟩ | ⟨_, rfl, f', h2, h3, h4⟩
    · exact absurd h hf
    · exact ⟨_, ⟨0, f', fun _ => False⟩, rfl, rfl, h4.os, h4.tape, h4.output, h4.size, fun b hb hk => h4.block b hb (fun hT => hk _ rfl hT), fun y hy => by cases hy; exact ⟨h2, h3⟩, (fun _ h => by cases h), (fun _ _ _ h => by cases h)⟩
theorem o_put_full (hw : want ops S o = some true) {args : Array Operand} {ts : Array TypeId} (ho : o.op = .call { callee := .value (.func 10), args := args, argTypes := ts }) {i n b : Nat} {M : Tab} {v : Bool} {z : Int}
    (ha : args.toList.mapM S.av = some [.p i 0, .v (.agg (pfc v n (b : Nat))), .v (.int .i64 z)]) (hb : S.blk i = some (.ext (tabA M))) (hn : n < 2 ^ 128) (hp' : isPfx v n (b : Nat) = true) (hf : M.full v n b) :
    OpOK Try.prog F ops o S { val := .v (.int .i64 81), rd := [i] } :=
  ok_call_val hw ho fn10 _ ha fun ρ w h1 _ => (put_yes v n b z hn hp' w (h1 i (by simp) _ hb)).mono fun en w' h => by
    rcases h with ⟨_, rfl, h2⟩ | ⟨h, _⟩
    · exact ⟨rfl, h2⟩
    · exact absurd hf h
theorem o_put_bad (hw : want ops S o = some true) {args : Array Operand} {ts : Array TypeId} (ho : o.op = .call { callee := .value (.func 10), args := args, argTypes := ts }) {i n : Nat} {b : Int} {v : Bool} {z : Int}
    (ha : args.toList.mapM S.av = some [.p i 0, .v (.agg (pfc v n b)), .v (.int .i64 z)]) (hp' : isPfx v n b = false) :
    OpOK Try.prog F ops o S { val := .v (.int .i64 25), rd := [] } :=
  ok_call_val hw ho fn10 _ ha fun ρ w _ _ => put_no v n b z hp' w
theorem o_find (hw : want ops S o = some true) {args : Array Operand} {ts : Array TypeId} (ho : o.op = .call { callee := .value (.func 11), args := args, argTypes := ts }) {i n : Nat} {M : Tab} {v : Bool}
    (ha : args.toList.mapM S.av = some [.p i 0, .v (.agg (adc v n))]) (hb : S.blk i = some (.ext (tabA M))) (hn : n < 2 ^ 128) (hv : validA v n = true) {r : Option (Nat × Int)} (hr : M.find v n = r) :
    OpOK Try.prog F ops o S { val := .v (fdRes v n r), rd := [i] } := by
  subst hr
  exact ok_call_val hw ho fn11 _ ha fun ρ w h1 _ => find_yes v n hn hv w (h1 i (by simp) _ hb)
theorem o_len (hw : want ops S o = some true) {args : Array Operand} {ts : Array TypeId} (ho : o.op = .call { callee := .value (.func 12), args := args, argTypes := ts }) {i : Nat} {M : Tab}
    (ha : args.toList.mapM S.av = some [.p i 0]) (hb : S.blk i = some (.ext (tabA M))) {c : Nat} (hc : M.cnt = c) : OpOK Try.prog F ops o S { val := .v (.int .i64 (c : Nat)), rd := [i] } := by
  subst hc
  exact ok_call_val hw ho fn12 _ ha fun ρ w h1 _ => len_any w (h1 i (by simp) _ hb)
theorem o_four (hw : want ops S o = some true) {args : Array Operand} {ts : Array TypeId} (ho : o.op = .call { callee := .value (.func 24), args := args, argTypes := ts }) {a b : Nat} {k : Int}
    (ha : args.toList.mapM S.av = some [.v (.int .u8 a), .v (.int .u8 b), .v (.int .i64 k)]) (h1 : a < 256) (h2 : b < 256) : OpOK Try.prog F ops o S { val := .v (.agg (pfc false (four4 a b) k)) } :=
  ok_call_val hw ho fn24 _ ha (rd := []) fun ρ w _ _ => four_any a b k h1 h2 w
end
def aw1 : Tab := Tab.nil.put false (four4 10 0) 8 1
def aw2 : Tab := aw1.put false (four4 10 1) 16 2
theorem aw_full1 : ¬ Tab.nil.full false (four4 10 0) 8 := fun h => absurd h.2 (by decide)
theorem aw_cnt1 : aw1.cnt = 1 := by decide +kernel
theorem aw_cnt2 : aw2.cnt = 2 := by decide +kernel
theorem aw_full2 : ¬ aw1.full false (four4 10 1) 16 := fun h => absurd h.2 (by rw [aw_cnt1]; decide)
theorem aw_find1 : aw2.find false (four4 10 1) = some (16, 2) := by decide +kernel
theorem aw_find2 : aw2.find false (four4 10 2) = some (8, 1) := by decide +kernel
set_option maxRecDepth 20000 in
theorem awake_any (w : World) : Calls Try.prog 8 #[] w fun e w' => e = .returned (.bool true) ∧ Below w.heap.size w w' := by
  go_enter Try.func8, Try.ntmps8
  have h := Rep.start (N := 78) [] [undef, undef, undef, undef, undef, undef, undef, undef, undef, undef, undef, undef, undef, undef, undef, undef, undef, undef, undef, undef, undef, undef, undef, undef, undef, undef, undef, undef, undef, undef, undef, undef, undef, undef, undef, undef, undef, undef, undef, undef, undef, undef, undef, undef, undef, undef, undef, undef, undef, undef, undef, undef, undef, undef, undef, undef, undef, undef, undef, undef, undef, undef, undef, undef, undef, undef, undef, undef, undef, undef, undef, undef, undef, undef, undef, undef, undef, undef] w rfl
  apply seq_dag hmix h
  case hw =>
    apply Walk.cons
    · exact ok_assign rfl rfl rfl
    exact Walk.nil _
  case hck => kernel_rfl
  case hQ =>
    intro ρ A w1 h
    apply seq_dag hmix h
    case hw =>
      apply Walk.cons
      · exact o_new 11 rfl rfl
      apply Walk.cons
      · exact ok_assign rfl rfl rfl
      exact Walk.nil _
    case hck => kernel_rfl
    case hQ =>
      intro ρ A w1 h
      refine wp_seq ?_
      apply seq_dag hmix h
      case hw =>
        apply Walk.cons
        · exact ok_move rfl rfl rfl
        apply Walk.cons
        · exact o_nonnil rfl rfl (.inl rfl) rfl rfl
        exact Walk.nil _
      case hck => kernel_rfl
      case hQ =>
        intro ρ A w1 h
        refine if_false' h rfl (wp_skip (Exit.then_normal ?_))
        apply seq_dag hmix h
        case hw =>
          apply Walk.cons
          · exact ok_move rfl rfl rfl
          apply Walk.cons
          · exact o_four (a := 10) (b := 0) (k := 8) rfl rfl rfl (by decide) (by decide)
          apply Walk.cons
          · exact o_put_ok (n := four4 10 0) (b := 8) (M := Tab.nil) rfl rfl rfl rfl (by decide +kernel) (by decide +kernel) aw_full1
          apply Walk.cons
          · exact ok_assign rfl rfl rfl
          exact Walk.nil _
        case hck => kernel_rfl
        case hQ =>
          intro ρ A w1 h
          apply seq_dag hmix h
          case hw =>
            apply Walk.cons
            · exact ok_move rfl rfl rfl
            apply Walk.cons
            · exact o_four (a := 10) (b := 1) (k := 16) rfl rfl rfl (by decide) (by decide)
            apply Walk.cons
            · exact o_put_ok (n := four4 10 1) (b := 16) (M := aw1) rfl rfl rfl rfl (by decide +kernel) (by decide +kernel) aw_full2
            apply Walk.cons
            · exact ok_assign rfl rfl rfl
            exact Walk.nil _
          case hck => kernel_rfl
          case hQ =>
            intro ρ A w1 h
            apply seq_dag hmix h
            case hw =>
              apply Walk.cons
              · exact ok_move rfl rfl rfl
              apply Walk.cons
              · exact o_four (a := 0) (b := 0) (k := 33) rfl rfl rfl (by decide) (by decide)
              apply Walk.cons
              · exact o_put_bad (n := four4 0 0) rfl rfl rfl (by decide +kernel)
              apply Walk.cons
              · exact ok_assign rfl rfl rfl
              exact Walk.nil _
            case hck => kernel_rfl
            case hQ =>
              intro ρ A w1 h
              have h := h.plain ⟨[(1, .p 11 0), (2, .v (.int .i64 0)), (3, .v (.int .i64 0)), (4, .v (.int .i64 25))], [(11, .ext (tabA aw2))]⟩ ⟨rfl, rfl, rfl, rfl, trivial⟩ ⟨rfl, trivial⟩ rfl
              apply seq_dag hmix h
              case hw =>
                apply Walk.cons
                · exact ok_move rfl rfl rfl
                apply Walk.cons
                · exact o_four (a := 10) (b := 1) (k := 0) rfl rfl rfl (by decide) (by decide)
                apply Walk.cons
                · exact ok_pure rfl (by kernel_rfl) (v := .agg (adc false (four4 10 1))) (fun w => by kernel_rfl)
                apply Walk.cons
                · exact o_find (n := four4 10 1) (M := aw2) rfl rfl rfl rfl (by decide +kernel) (by decide +kernel) aw_find1
                apply Walk.cons
                · exact ok_move rfl rfl rfl
                apply Walk.cons
                · exact ok_extract rfl rfl rfl rfl
                apply Walk.cons
                · exact ok_extract rfl rfl rfl rfl
                apply Walk.cons
                · exact ok_extract rfl rfl rfl rfl
                apply Walk.cons
                · exact o_alloc31 6 rfl rfl
                apply Walk.cons
                · exact ok_assign rfl rfl rfl
                apply Walk.cons
                · exact o_store31 rfl rfl rfl rfl rfl
                apply Walk.cons
                · exact ok_assign rfl rfl rfl
                exact Walk.nil _
              case hck => kernel_rfl
              case hQ =>
                intro ρ A w1 h
                apply seq_dag hmix h
                case hw =>
                  apply Walk.cons
                  · exact ok_move rfl rfl rfl
                  apply Walk.cons
                  · exact o_four (a := 10) (b := 2) (k := 0) rfl rfl rfl (by decide) (by decide)
                  apply Walk.cons
                  · exact ok_pure rfl (by kernel_rfl) (v := .agg (adc false (four4 10 2))) (fun w => by kernel_rfl)
                  apply Walk.cons
                  · exact o_find (n := four4 10 2) (M := aw2) rfl rfl rfl rfl (by decide +kernel) (by decide +kernel) aw_find2
                  apply Walk.cons
                  · exact ok_move rfl rfl rfl
                  apply Walk.cons
                  · exact ok_extract rfl rfl rfl rfl
                  apply Walk.cons
                  · exact ok_extract rfl rfl rfl rfl
                  apply Walk.cons
                  · exact ok_extract rfl rfl rfl rfl
                  apply Walk.cons
                  · exact o_alloc31 9 rfl rfl
                  apply Walk.cons
                  · exact ok_assign rfl rfl rfl
                  apply Walk.cons
                  · exact o_store31 rfl rfl rfl rfl rfl
                  apply Walk.cons
                  · exact ok_assign rfl rfl rfl
                  exact Walk.nil _
                case hck => kernel_rfl
                case hQ =>
                  intro ρ A w1 h
                  apply seq_dag hmix h
                  case hw =>
                    apply Walk.cons
                    · exact ok_move rfl rfl rfl
                    apply Walk.cons
                    · exact o_bin rfl rfl rfl rfl (r_eqlz (decide_eq_true rfl))
                    apply Walk.cons
                    · exact ok_move rfl rfl rfl
                    apply Walk.cons
                    · first | exact ok_skip rfl | exact ok_move rfl rfl rfl
                    apply Walk.cons
                    · exact o_bin rfl rfl rfl rfl (r_eqlz (decide_eq_true rfl))
                    apply Walk.cons
                    · first | exact ok_pick_true rfl rfl rfl rfl | exact ok_pick_false rfl rfl rfl rfl
                    apply Walk.cons
                    · exact ok_move rfl rfl rfl
                    apply Walk.cons
                    · first | exact ok_skip rfl | exact ok_move rfl rfl rfl
                    apply Walk.cons
                    · exact o_bin rfl rfl rfl rfl (r_eqlz (decide_eq_true rfl))
                    apply Walk.cons
                    · first | exact ok_pick_true rfl rfl rfl rfl | exact ok_pick_false rfl rfl rfl rfl
                    apply Walk.cons
                    · exact ok_move rfl rfl rfl
                    apply Walk.cons
                    · first | exact ok_skip rfl | exact ok_move rfl rfl rfl
                    apply Walk.cons
                    · exact o_bin rfl rfl rfl rfl (r_eqlz (decide_eq_true rfl))
                    apply Walk.cons
                    · first | exact ok_pick_true rfl rfl rfl rfl | exact ok_pick_false rfl rfl rfl rfl
                    apply Walk.cons
                    · exact ok_move rfl rfl rfl
                    apply Walk.cons
                    · first | exact ok_skip rfl | exact ok_fld rfl rfl rfl fo31_1 rfl | exact ok_fld_v rfl rfl rfl fo31_1 rfl
                    apply Walk.cons
                    · exact ok_load_cell rfl rfl rfl rfl one3 rfl
                    apply Walk.cons
                    · exact o_bin rfl rfl rfl rfl (r_eqlz (decide_eq_true rfl))
                    apply Walk.cons
                    · first | exact ok_pick_true rfl rfl rfl rfl | exact ok_pick_false rfl rfl rfl rfl
                    apply Walk.cons
                    · exact ok_move rfl rfl rfl
                    apply Walk.cons
                    · first | exact ok_skip rfl | exact ok_move rfl rfl rfl
                    apply Walk.cons
                    · first | exact ok_pick_true rfl rfl rfl rfl | exact ok_pick_false rfl rfl rfl rfl
                    apply Walk.cons
                    · exact ok_move rfl rfl rfl
                    apply Walk.cons
                    · first | exact ok_skip rfl | exact ok_move rfl rfl rfl
                    apply Walk.cons
                    · exact o_bin rfl rfl rfl rfl (r_eqlz (decide_eq_true rfl))
                    apply Walk.cons
                    · first | exact ok_pick_true rfl rfl rfl rfl | exact ok_pick_false rfl rfl rfl rfl
                    apply Walk.cons
                    · exact ok_move rfl rfl rfl
                    apply Walk.cons
                    · first | exact ok_skip rfl | exact ok_fld rfl rfl rfl fo31_1 rfl | exact ok_fld_v rfl rfl rfl fo31_1 rfl
                    apply Walk.cons
                    · exact ok_load_cell rfl rfl rfl rfl one3 rfl
                    apply Walk.cons
                    · exact o_bin rfl rfl rfl rfl (r_eqlz (decide_eq_true rfl))
                    apply Walk.cons
                    · first | exact ok_pick_true rfl rfl rfl rfl | exact ok_pick_false rfl rfl rfl rfl
                    apply Walk.cons
                    · exact ok_move rfl rfl rfl
                    apply Walk.cons
                    · first | exact ok_skip rfl | exact ok_move rfl rfl rfl
                    apply Walk.cons
                    · first | exact ok_pick_true rfl rfl rfl rfl | exact ok_pick_false rfl rfl rfl rfl
                    apply Walk.cons
                    · exact ok_move rfl rfl rfl
                    apply Walk.cons
                    · first | exact ok_skip rfl | exact ok_move rfl rfl rfl
                    apply Walk.cons
                    · exact o_len (c := 2) rfl rfl rfl rfl aw_cnt2
                    apply Walk.cons
                    · exact o_bin rfl rfl rfl rfl (r_eqlz (decide_eq_true rfl))
                    apply Walk.cons
                    · first | exact ok_pick_true rfl rfl rfl rfl | exact ok_pick_false rfl rfl rfl rfl
                    apply Walk.cons
                    · exact ok_assign rfl rfl rfl
                    exact Walk.nil _
                  case hck => kernel_rfl
                  case hQ =>
                    intro ρ A w1 h
                    refine wp_ret ?_
                    repeat (first | refine Exit.thenRet ?_ | refine Exit.blockRet ?_)
                    refine h.result_tmp Try.results8 rfl ?_
                    exact ⟨rfl, h.below⟩
end Go.Proofs.Ytnppgaohfegloaa
