/-
  aditref01.Of, and aditlaw01.FieldOf: what it hands back is true, for any whole number.
-/
import Derived.Test.YtnbdeajjfhlmnaaFew
namespace Go.Proofs.Ytnbdeajjfhlmnaa
open Go.RowKit

def four (x0 x1 x2 x3 : Nat) : Nat → Nat := fun j => if j = 0 then x0 else if j = 1 then x1 else if j = 2 then x2 else x3
theorem fill_four (a b c d : Nat) : Instr.fill (fun i => some (i * 1, 1)) ((Array.range (4 * 1)).map ((Value.int .i64 0).cells[· % (Value.int .i64 0).cells.size]!)) [(0, .int .i64 a), (1, .int .i64 b), (2, .int .i64 c), (3, .int .i64 d)] = some (icv (four a b c d) 4) := by kernel_rfl
theorem run_four (a b c d : Nat) (w : World) : (Instr.buildSlice 46 4 #[(0, .int .i64 a), (1, .int .i64 b), (2, .int .i64 c), (3, .int .i64 d)]).run Try.prog w = .ok (.slice (some ⟨w.heap.size, 0, none⟩) 4 4) (w.alloc (Blk.obj ⟨icv (four a b c d) 4, 3⟩)) := by
  obtain ⟨ie, hi, hs, hz, _⟩ := info3
  exact run_buildSlice w 46 3 4 _ (icv (four a b c d) 4) ie (.int .i64 0) u46 hi hz (by rw [hs]; decide) (by rw [hs]; decide) (by rw [hs]; exact fill_four a b c d)
section
variable {F : Fr} {ops : Array Oper} {S : St} {o : Oper}
theorem o_four (i : Nat) (hw : want ops S o = some true) {y0 y1 y2 y3 : Operand} (ho : o.op = .buildSlice 46 4 #[(0, y0), (1, y1), (2, y2), (3, y3)]) {a b c d : Nat} (h0 : S.av y0 = some (.v (.int .i64 a))) (h1 : S.av y1 = some (.v (.int .i64 b)))
    (h2 : S.av y2 = some (.v (.int .i64 c))) (h3 : S.av y3 = some (.v (.int .i64 d))) : OpOK Try.prog F ops o S { val := .s i 0 4 4, new := some (i, ⟨icv (four a b c d) 4, 3⟩) } := by
  refine .of hw fun ρ A w Q K q1 _ _ h4 => ?_
  have e0 := q1 y0 (by simp [ho, Op.operands]) _ h0
  have e1 := q1 y1 (by simp [ho, Op.operands]) _ h1
  have e2 := q1 y2 (by simp [ho, Op.operands]) _ h2
  have e3 := q1 y3 (by simp [ho, Op.operands]) _ h3
  have hr : (execOp A.eval o).run Try.prog w = .ok (.value (.slice (some ⟨w.heap.size, 0, none⟩) 4 4)) (w.alloc (Blk.obj ⟨icv (four a b c d) 4, 3⟩)) := by
    simp only [execOp, ho, List.map_toArray, List.map_cons, List.map_nil, e0, e1, e2, e3, AV.to_v]
    rw [Sem.run_bind, run_four]
    rfl
  unfold Oper.wp
  rw [hr, Oper.upon_value]
  exact h4 _ _ w.heap.size (Out.alloc rfl rfl (by simp [AV.s, AV.to, upd]))
theorem o_rest4 (hw : want ops S o = some true) {args : Array Operand} {ts : Array TypeId} (ho : o.op = .call { callee := .value (.func 48), args := args, argTypes := ts }) {i : Nat} {f : Nat → Nat}
    (hx : args.toList.mapM S.av = some [.s i 0 4 4]) (hb : S.blk i = some ⟨icv f 4, 3⟩) (hf : ∀ j, j < 4 → f j < 1099511627776) {n : Nat} (hn : valN f 4 % pp = n) : OpOK Try.prog F ops o S { val := .v (bv n), rd := [i] } := by
  subst hn
  exact ok_call_val hw ho fn48 _ hx (rd := [i]) (fun ρ w hm _ => rest4_any f 4 4 (ρ i) (by decide) hf w (cells_icv (hm i (by simp) _ hb) (by decide)))
theorem o_negI (hw : want ops S o = some true) {x : Operand} {t : TypeId} (ho : o.op = .unOp .neg t x) {a : Int} {c : Int} (hx : S.av x = some (.v (.int .i64 a))) (hc : IntKind.i64.wrap (-a) = c) :
    OpOK Try.prog F ops o S { val := .v (.int .i64 c) } :=
  ok_value hw fun ρ a' w h1 _ _ => by
    have e1 := h1 x (by simp [ho, Op.operands]) _ hx
    have e2 : (Op.intArith .sub .i64 0 a).run Try.prog w = .ok (.int .i64 c) w := by rw [← hc, ← Int.zero_sub]; rfl
    simp [execOp, ho, e1, Op.unary, e2]
end
theorem four_val (a : Nat) : valN (four (a % 65536) (a / 65536 % 65536) (a / 65536 / 65536 % 65536) (a / 65536 / 65536 / 65536)) 4 = a := by
  simp [valN, four]
  omega
theorem four_lt {a : Nat} (h : a < 9223372036854775808) (j : Nat) : four (a % 65536) (a / 65536 % 65536) (a / 65536 / 65536 % 65536) (a / 65536 / 65536 / 65536) j < 1099511627776 := by
  unfold four
  split
  · omega
  · split
    · omega
    · split <;> omega
theorem ofP_nat (a : Nat) : ofP (a : Int) = a % pp := by rw [ofP, ← Int.natCast_emod, Int.toNat_natCast]
theorem fn22 : goFn Try.prog 22 = true := by kernel_rfl
theorem ref_pos (a : Nat) (h1 : a < 9223372036854775808) (w : World) : Calls Try.prog 22 #[.int .i64 (a : Int)] w fun e w' => e = .returned (bv (a % pp)) ∧ Below w.heap.size w w' := by
  go_enter Try.func22, Try.ntmps22
  have h := Rep.start (N := 30) [.int .i64 (a : Int)] [undef, undef, undef, undef, undef, undef, undef, undef, undef, undef, undef, undef, undef, undef, undef, undef, undef, undef, undef, undef, undef, undef, undef, undef, undef, undef, undef, undef, undef] w rfl
  apply seq_dag hmix h
  case hw =>
    apply Walk.cons
    · exact o_alloc24 2 rfl rfl
    exact Walk.nil _
  case hck => kernel_rfl
  case hQ =>
    intro ρ A w1 h
    refine wp_seq (wp_seq ?_)
    apply region_dag hmix h
    case hw =>
      apply Walk.cons
      · exact ok_move rfl rfl rfl
      apply Walk.cons
      · exact o_bin rfl rfl rfl rfl (r_geqI (a := (a : Int)) (b := 0) (decide_eq_true (by omega)))
      exact Walk.nil _
    case hck => kernel_rfl
    case hQ =>
      intro ρ A w1 h
      refine if_true' h rfl ?_
      apply seq_dag hmix h
      case hw =>
        apply Walk.cons
        · exact ok_move rfl rfl rfl
        apply Walk.cons
        · exact o_bin rfl rfl rfl rfl (r_remi (a := a) (b := 65536) (by decide))
        apply Walk.cons
        · exact ok_move rfl rfl rfl
        apply Walk.cons
        · exact o_bin rfl rfl rfl rfl (r_quoi (a := a) (b := 65536) (by decide) (by omega))
        apply Walk.cons
        · exact o_bin rfl rfl rfl rfl (r_remi (a := a / 65536) (b := 65536) (by decide))
        apply Walk.cons
        · exact ok_move rfl rfl rfl
        apply Walk.cons
        · exact o_bin rfl rfl rfl rfl (r_quoi (a := a) (b := 65536) (by decide) (by omega))
        apply Walk.cons
        · exact o_bin rfl rfl rfl rfl (r_quoi (a := a / 65536) (b := 65536) (by decide) (by omega))
        apply Walk.cons
        · exact o_bin rfl rfl rfl rfl (r_remi (a := a / 65536 / 65536) (b := 65536) (by decide))
        apply Walk.cons
        · exact ok_move rfl rfl rfl
        apply Walk.cons
        · exact o_bin rfl rfl rfl rfl (r_quoi (a := a) (b := 65536) (by decide) (by omega))
        apply Walk.cons
        · exact o_bin rfl rfl rfl rfl (r_quoi (a := a / 65536) (b := 65536) (by decide) (by omega))
        apply Walk.cons
        · exact o_bin rfl rfl rfl rfl (r_quoi (a := a / 65536 / 65536) (b := 65536) (by decide) (by omega))
        apply Walk.cons
        · exact o_four 19 rfl rfl rfl rfl rfl rfl
        apply Walk.cons
        · exact o_rest4 rfl rfl rfl rfl (fun j _ => four_lt h1 j) (n := a % pp) (by rw [four_val])
        apply Walk.cons
        · exact o_store24 rfl rfl rfl rfl rfl
        exact Walk.nil _
      case hck => kernel_rfl
      case hQ =>
        intro ρ A w1 h
        refine wp_ret (Exit.then_ret ?_)
        exact h.result24 Try.results22 rfl rfl ⟨rfl, h.below⟩
theorem ofP_neg {a : Int} {y : Nat} (h : a = -(y : Int) - 1) : subP (subP 0 (y % pp)) (1 % pp) = ofP a := by
  have e1 : (subP 0 (y % pp) : Int) = (-(y : Int)) % pp := by
    subst h
    rw [subP, pp_lit]
    omega
  have e2 : (subP (subP 0 (y % pp)) (1 % pp) : Int) = ((subP 0 (y % pp) : Int) - 1) % pp := by
    generalize subP 0 (y % pp) = x
    rw [subP, pp_lit]
    omega
  rw [e1] at e2
  have e3 : (subP (subP 0 (y % pp)) (1 % pp) : Int) = a % pp := by
    rw [e2, h, pp_lit]
    omega
  rw [ofP, ← e3, Int.toNat_natCast]
theorem ref22_any (a : Int) (h0 : -9223372036854775808 ≤ a) (h1 : a < 9223372036854775808) (w : World) : Calls Try.prog 22 #[.int .i64 a] w fun e w' => e = .returned (bv (ofP a)) ∧ Below w.heap.size w w' := by
  by_cases hneg : a < 0
  · obtain ⟨y, hy⟩ : ∃ y : Nat, a = -(y : Int) - 1 := ⟨(-a - 1).toNat, by omega⟩
    have hyl : y < 9223372036854775808 := by omega
    go_enter Try.func22, Try.ntmps22
    have h := Rep.start (N := 30) [.int .i64 a] [undef, undef, undef, undef, undef, undef, undef, undef, undef, undef, undef, undef, undef, undef, undef, undef, undef, undef, undef, undef, undef, undef, undef, undef, undef, undef, undef, undef, undef] w rfl
    apply seq_dag hmix h
    case hw =>
      apply Walk.cons
      · exact o_alloc24 2 rfl rfl
      exact Walk.nil _
    case hck => kernel_rfl
    case hQ =>
      intro ρ A w1 h
      refine wp_seq (wp_seq ?_)
      apply region_dag hmix h
      case hw =>
        apply Walk.cons
        · exact ok_move rfl rfl rfl
        apply Walk.cons
        · exact o_bin rfl rfl rfl rfl (r_geqI (a := a) (b := 0) (decide_eq_false (by omega)))
        exact Walk.nil _
      case hck => kernel_rfl
      case hQ =>
        intro ρ A w1 h
        refine if_false' h rfl (wp_skip ?_)
        refine Exit.then_normal ?_
        apply seq_dag hmix h
        case hw =>
          apply Walk.cons
          · exact ok_move rfl rfl rfl
          apply Walk.cons
          · exact o_bin rfl rfl rfl rfl (r_addI (a := a) (b := 1) (c := a + 1) (wrapI (by omega) (by omega)))
          apply Walk.cons
          · exact o_negI rfl rfl rfl (c := (y : Int)) (by rw [show -(a + 1) = (y : Int) by omega]; exact wrapI (by omega) (by omega))
          apply Walk.cons
          · exact ok_assign rfl rfl rfl
          exact Walk.nil _
        case hck => kernel_rfl
        case hQ =>
          intro ρ A w1 h
          apply seq_dag hmix h
          case hw =>
            apply Walk.cons
            · exact o_built rfl rfl (by kernel_rfl) (v := bv 0) (fun w => by kernel_rfl)
            apply Walk.cons
            · exact ok_move rfl rfl rfl
            apply Walk.cons
            · exact ok_call_val rfl rfl fn22 [.v _] rfl (rd := []) (fun ρ w _ _ => ref_pos y hyl w)
            apply Walk.cons
            · exact o_sub26 rfl rfl rfl (by first | assumption | exact pp_lt _ | exact subP_lt _ _ | exact ofP_lt _ | decide +kernel) (by first | assumption | exact pp_lt _ | exact subP_lt _ _ | exact ofP_lt _ | decide +kernel)
            apply Walk.cons
            · exact ok_call_val rfl rfl fn22 [.v _] rfl (rd := []) (fun ρ w _ _ => ref_pos 1 (by decide) w)
            apply Walk.cons
            · exact o_sub26 rfl rfl rfl (by first | assumption | exact pp_lt _ | exact subP_lt _ _ | exact ofP_lt _ | decide +kernel) (by first | assumption | exact pp_lt _ | exact subP_lt _ _ | exact ofP_lt _ | decide +kernel)
            apply Walk.cons
            · exact o_store24 rfl rfl rfl rfl rfl
            exact Walk.nil _
          case hck => kernel_rfl
          case hQ =>
            intro ρ A w1 h
            refine wp_ret ?_
            exact h.result24 Try.results22 rfl rfl ⟨by rw [ofP_neg hy], h.below⟩
  · obtain ⟨y, rfl⟩ : ∃ y : Nat, a = (y : Int) := ⟨a.toNat, by omega⟩
    rw [ofP_nat]
    exact ref_pos y (by omega) w
theorem of_next (a : Int) : (ofP a + 1) % pp = ofP (a + 1) := by
  have hp : (0 : Int) < pp := by decide
  have h1 : (ofP a : Int) = a % pp := Int.toNat_of_nonneg (Int.emod_nonneg _ (by omega))
  have h2 : ((ofP a + 1 : Nat) : Int) % pp = (a + 1) % pp := by rw [Int.natCast_add, h1, Int.emod_add_emod]; rfl
  have h3 : (((ofP a + 1) % pp : Nat) : Int) = (a + 1) % pp := by rw [Int.natCast_emod, h2]
  show (ofP a + 1) % pp = ((a + 1) % (pp : Int)).toNat
  rw [← h3, Int.toNat_natCast]
theorem r_eqlI {P : Program} {t : TypeId} {k : IntKind} {a b : Int} {c : Bool} (h : decide (a = b) = c) (w : World) : (binOp .eql t (.int k a) (.int k b)).run P w = .ok (.bool c) w := by
  subst h
  have : (a == b) = decide (a = b) := rfl
  simp [binOp, Op.intCmp, this]
attribute [local irreducible] pp ofP
set_option maxRecDepth 20000 in
theorem law4_any (a : Int) (h0 : -9223372036854775808 ≤ a) (h1 : a < 9223372036854775808) (w : World) : Calls Try.prog 4 #[.int .i64 a] w fun e w' => e = .returned (.bool true) ∧ Below w.heap.size w w' := by
  have hnext := of_next a
  have hlt := ofP_lt a
  have hlt1 := ofP_lt (a + 1)
  by_cases hmax : a = 9223372036854775807
  · go_enter Try.func4, Try.ntmps4
    have h := Rep.start (N := 25) [.int .i64 a] [undef, undef, undef, undef, undef, undef, undef, undef, undef, undef, undef, undef, undef, undef, undef, undef, undef, undef, undef, undef, undef, undef, undef, undef] w rfl
    apply seq_dag hmix h
    case hw =>
      apply Walk.cons
      · exact ok_assign rfl rfl rfl
      exact Walk.nil _
    case hck => kernel_rfl
    case hQ =>
      intro ρ A w1 h
      apply seq_dag hmix h
      case hw =>
        apply Walk.cons
        · exact ok_move rfl rfl rfl
        apply Walk.cons
        · exact ok_call_val rfl rfl fn21 [.v _] rfl (rd := []) (fun ρ w _ _ => of_any a h0 h1 w)
        apply Walk.cons
        · exact o_alloc24 3 rfl rfl
        apply Walk.cons
        · exact o_store24 rfl rfl rfl rfl rfl
        exact Walk.nil _
      case hck => kernel_rfl
      case hQ =>
        intro ρ A w1 h
        refine wp_seq (wp_seq ?_)
        apply region_dag hmix h
        case hw =>
          apply Walk.cons
          · exact o_load24 rfl rfl rfl rfl
          apply Walk.cons
          · exact ok_move rfl rfl rfl
          apply Walk.cons
          · exact ok_call_val rfl rfl fn22 [.v _] rfl (rd := []) (fun ρ w _ _ => ref22_any a h0 h1 w)
          apply Walk.cons
          · exact o_neq24 rfl rfl rfl rfl hlt hlt (decide_eq_false (fun h => h rfl))
          exact Walk.nil _
        case hck => kernel_rfl
        case hQ =>
          intro ρ A w1 h
          refine if_false' h rfl (wp_skip ?_)
          refine Exit.then_normal ?_
          apply seq_dag hmix h
          case hw =>
            apply Walk.cons
            · exact ok_move rfl rfl rfl
            apply Walk.cons
            · exact o_bin rfl rfl rfl rfl (r_eqlI (a := a) (b := 9223372036854775807) (decide_eq_true hmax))
            apply Walk.cons
            · exact ok_move rfl rfl rfl
            apply Walk.cons
            · exact ok_skip rfl
            apply Walk.cons
            · exact ok_skip rfl
            apply Walk.cons
            · exact ok_skip rfl
            apply Walk.cons
            · exact ok_skip rfl
            apply Walk.cons
            · exact ok_skip rfl
            apply Walk.cons
            · exact ok_skip rfl
            apply Walk.cons
            · exact ok_skip rfl
            apply Walk.cons
            · exact ok_skip rfl
            apply Walk.cons
            · exact ok_pick_true rfl rfl rfl rfl
            apply Walk.cons
            · exact ok_move rfl rfl rfl
            apply Walk.cons
            · exact ok_call_val rfl rfl fn20 [] rfl (rd := []) (fun ρ w _ _ => awake_any w)
            apply Walk.cons
            · exact ok_pick_true rfl rfl rfl rfl
            apply Walk.cons
            · exact ok_assign rfl rfl rfl
            exact Walk.nil _
          case hck => kernel_rfl
          case hQ =>
            intro ρ A w1 h
            refine wp_ret ?_
            exact h.result_tmp Try.results4 rfl ⟨rfl, h.below⟩
  · go_enter Try.func4, Try.ntmps4
    have h := Rep.start (N := 25) [.int .i64 a] [undef, undef, undef, undef, undef, undef, undef, undef, undef, undef, undef, undef, undef, undef, undef, undef, undef, undef, undef, undef, undef, undef, undef, undef] w rfl
    apply seq_dag hmix h
    case hw =>
      apply Walk.cons
      · exact ok_assign rfl rfl rfl
      exact Walk.nil _
    case hck => kernel_rfl
    case hQ =>
      intro ρ A w1 h
      apply seq_dag hmix h
      case hw =>
        apply Walk.cons
        · exact ok_move rfl rfl rfl
        apply Walk.cons
        · exact ok_call_val rfl rfl fn21 [.v _] rfl (rd := []) (fun ρ w _ _ => of_any a h0 h1 w)
        apply Walk.cons
        · exact o_alloc24 3 rfl rfl
        apply Walk.cons
        · exact o_store24 rfl rfl rfl rfl rfl
        exact Walk.nil _
      case hck => kernel_rfl
      case hQ =>
        intro ρ A w1 h
        refine wp_seq (wp_seq ?_)
        apply region_dag hmix h
        case hw =>
          apply Walk.cons
          · exact o_load24 rfl rfl rfl rfl
          apply Walk.cons
          · exact ok_move rfl rfl rfl
          apply Walk.cons
          · exact ok_call_val rfl rfl fn22 [.v _] rfl (rd := []) (fun ρ w _ _ => ref22_any a h0 h1 w)
          apply Walk.cons
          · exact o_neq24 rfl rfl rfl rfl hlt hlt (decide_eq_false (fun h => h rfl))
          exact Walk.nil _
        case hck => kernel_rfl
        case hQ =>
          intro ρ A w1 h
          refine if_false' h rfl (wp_skip ?_)
          refine Exit.then_normal ?_
          apply seq_dag hmix h
          case hw =>
            apply Walk.cons
            · exact ok_move rfl rfl rfl
            apply Walk.cons
            · exact o_bin rfl rfl rfl rfl (r_eqlI (a := a) (b := 9223372036854775807) (decide_eq_false hmax))
            apply Walk.cons
            · exact ok_move rfl rfl rfl
            apply Walk.cons
            · exact o_load24 rfl rfl rfl rfl
            apply Walk.cons
            · exact o_built rfl rfl (by kernel_rfl) (v := bv 1) (fun w => by kernel_rfl)
            apply Walk.cons
            · exact o_lit2 15 rfl rfl rfl rfl rfl
            apply Walk.cons
            · exact o_add2 rfl rfl rfl rfl (by first | assumption | exact pp_lt _ | exact subP_lt _ _ | exact ofP_lt _ | decide +kernel) (by first | assumption | exact pp_lt _ | exact subP_lt _ _ | exact ofP_lt _ | decide +kernel)
            apply Walk.cons
            · exact ok_move rfl rfl rfl
            apply Walk.cons
            · exact o_bin rfl rfl rfl rfl (r_addI (a := a) (b := 1) (c := a + 1) (wrapI (by omega) (by omega)))
            apply Walk.cons
            · exact ok_call_val rfl rfl fn21 [.v _] rfl (rd := []) (fun ρ w _ _ => of_any (a + 1) (by omega) (by omega) w)
            apply Walk.cons
            · exact o_eql24 rfl rfl rfl rfl (pp_lt _) hlt1 (decide_eq_true hnext)
            apply Walk.cons
            · exact ok_pick_false rfl rfl rfl rfl
            apply Walk.cons
            · exact ok_move rfl rfl rfl
            apply Walk.cons
            · exact ok_call_val rfl rfl fn20 [] rfl (rd := []) (fun ρ w _ _ => awake_any w)
            apply Walk.cons
            · exact ok_pick_true rfl rfl rfl rfl
            apply Walk.cons
            · exact ok_assign rfl rfl rfl
            exact Walk.nil _
          case hck => kernel_rfl
          case hQ =>
            intro ρ A w1 h
            refine wp_ret ?_
            exact h.result_tmp Try.results4 rfl ⟨rfl, h.below⟩
end Go.Proofs.Ytnbdeajjfhlmnaa
