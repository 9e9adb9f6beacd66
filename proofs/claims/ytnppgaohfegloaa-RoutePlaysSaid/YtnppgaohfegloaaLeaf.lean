/-
  Walks: which side, a bit, what may be an address, a prefix, the whole prefix, a new table.
-/
import Derived.Test.YtnppgaohfegloaaAddr
namespace Go.Proofs.Ytnppgaohfegloaa
open Go.RowKit

section
variable {P : Program}
theorem run_part_cell {t : TypeId} {cs : Array Value} {k : Nat} {v : Value} (ht : tOne P t = true) (hv : cs[k]? = some v) (w : World) : (part t cs k).run P w = .ok v w := by
  simp [part, run_isAgg_false ht, hv]

theorem run_loop_all {f g : Nat → Nat} {len : Nat} (F : Nat → Option Bool × PUnit → Sem (ForInStep (Option Bool × PUnit)))
    (hF : ∀ i, i < len → ∀ r w, (F i r).run P w = .ok (if f i == g i then .yield (none, ()) else .done (some false, ())) w) :
    ∀ (l : List Nat), (∀ i ∈ l, i < len) → ∀ (w : World), (forIn (m := Sem) l ((none, ()) : Option Bool × PUnit) F).run P w =
      .ok (if l.all (fun i => f i == g i) then (none, ()) else (some false, ())) w := by
  intro l
  induction l with
  | nil => intro _ w; simp
  | cons i l ih =>
    intro hl w
    rw [List.forIn_cons, Sem.run_bind, hF i (hl i (by simp)), Result.andThen_ok]
    by_cases hfg : f i = g i
    · have := ih (fun j hj => hl j (by simp [hj])) w
      simp only [hfg, beq_self_eq_true, if_true, List.all_cons, Bool.true_and]
      exact this
    · have hne : (f i == g i) = false := by simpa using hfg
      simp only [hne, Bool.false_eq_true, if_false, List.all_cons, Bool.false_and]
      rfl

theorem run_equalIn_bytes (d : Nat) {t e : TypeId} {len : Nat} (xs ys : Array Value) (f g : Nat → Nat) (hu : P.underlying t = some (.array len e)) (he : P.underlying e = some (.int .u8)) (hn : tSize P e = some 1)
    (hx : ∀ i, i < len → xs[i]? = some (.int .u8 (f i))) (hy : ∀ i, i < len → ys[i]? = some (.int .u8 (g i))) (w : World) :
    (Op.equalIn (d + 2) t (.agg xs) (.agg ys)).run P w = .ok ((List.range len).all fun i => f i == g i) w := by
  have hone : tOne P e = true := by simp [tOne, he]
  simp only [Op.equalIn, Sem.run_bind, run_underlying hu, Result.andThen_ok, run_sizeOf' hn, Std.Legacy.Range.forIn_eq_forIn_range']
  rw [run_loop_all (P := P) (f := f) (g := g) (len := len) _ (fun i hi r w => ?_) _ (fun i hi => by
    have := List.mem_range'_1.1 hi; simp [Std.Legacy.Range.size] at this; omega) w]
  · simp only [Result.andThen_ok]
    have hl : List.range' 0 (Std.Legacy.Range.size { start := 0, stop := len, step := 1, step_pos := by decide }) 1 = List.range len := by
      simp [Std.Legacy.Range.size, List.range_eq_range']
    rw [show (List.range' ({ start := 0, stop := len, step := 1, step_pos := by decide } : Std.Legacy.Range).start (Std.Legacy.Range.size { start := 0, stop := len, step := 1, step_pos := by decide }) ({ start := 0, stop := len, step := 1, step_pos := by decide } : Std.Legacy.Range).step) = List.range len from hl]
    cases (List.range len).all fun i => f i == g i <;> rfl
  · have h1 := run_part_cell (P := P) hone (hx i hi) w
    have h2 := run_part_cell (P := P) hone (hy i hi) w
    simp only [Nat.mul_one, Sem.run_bind, h1, h2, Result.andThen_ok]
    by_cases hfg : f i = g i
    · simp [hfg, run_underlying he]
    · have hne : ((f i : Int) == (g i : Int)) = false := by simp; omega
      simp [hfg, run_underlying he, hne]

end
theorem run_lit_eq12 {n : Nat} (w : World) (xs : Array Value) (hx : ∀ i, i < 12 → xs[i]? = some (byteV n (11 - i))) : (binOp .eql 79 (.agg xs) (.agg #[.int .u8 0, .int .u8 0, .int .u8 0, .int .u8 0, .int .u8 0, .int .u8 0, .int .u8 0, .int .u8 0, .int .u8 0, .int .u8 0, .int .u8 0, .int .u8 0])).run Try.prog w = .ok (.bool (decide (n % 2 ^ 96 = 0))) w := by
  have := run_equalIn_bytes (P := Try.prog) 9998 xs #[.int .u8 0, .int .u8 0, .int .u8 0, .int .u8 0, .int .u8 0, .int .u8 0, .int .u8 0, .int .u8 0, .int .u8 0, .int .u8 0, .int .u8 0, .int .u8 0] (fun i => byteOf n (11 - i)) (fun _ => 0) u79 (by kernel_rfl) sz5 hx
    (fun i hi => by
      have : i = 0 ∨ i = 1 ∨ i = 2 ∨ i = 3 ∨ i = 4 ∨ i = 5 ∨ i = 6 ∨ i = 7 ∨ i = 8 ∨ i = 9 ∨ i = 10 ∨ i = 11 := by omega
      rcases this with rfl | rfl | rfl | rfl | rfl | rfl | rfl | rfl | rfl | rfl | rfl | rfl <;> rfl) w
  rw [low96] at this
  simp only [binOp, Op.equal, Op.maxDepth, Sem.run_bind, this, Result.andThen_ok]
  rfl
def b12 (n : Nat) : Array Value := #[byteV n 11, byteV n 10, byteV n 9, byteV n 8, byteV n 7, byteV n 6, byteV n 5, byteV n 4, byteV n 3, byteV n 2, byteV n 1, byteV n 0]
theorem b12_get (n : Nat) : ∀ i, i < 12 → (b12 n)[i]? = some (byteV n (11 - i))
  | 0, _ => rfl
  | 1, _ => rfl
  | 2, _ => rfl
  | 3, _ => rfl
  | 4, _ => rfl
  | 5, _ => rfl
  | 6, _ => rfl
  | 7, _ => rfl
  | 8, _ => rfl
  | 9, _ => rfl
  | 10, _ => rfl
  | 11, _ => rfl
  | _ + 12, h => absurd h (by omega)
theorem adc_b12 (v : Bool) (n : Nat) : ∀ k, k < 12 → (adc v n)[5 + k]? = (b12 n)[k]?
  | 0, _ => rfl
  | 1, _ => rfl
  | 2, _ => rfl
  | 3, _ => rfl
  | 4, _ => rfl
  | 5, _ => rfl
  | 6, _ => rfl
  | 7, _ => rfl
  | 8, _ => rfl
  | 9, _ => rfl
  | 10, _ => rfl
  | 11, _ => rfl
  | _ + 12, h => absurd h (by omega)
section
variable {F : Fr} {ops : Array Oper} {S : St} {o : Oper}
theorem o_slice22 (hw : want ops S o = some true) {x : Operand} (ho : o.op = .slice 22 x (some (.const (.int .i64 4))) none none) {i : Nat} (hx : S.av x = some (.p i 1)) : OpOK Try.prog F ops o S { val := .s i 5 12 12 } :=
  ok_value hw fun ρ a w h1 _ _ => by
    have e1 := h1 x (by simp [ho, Op.operands]) _ hx
    have e2 : a.eval (.const (.int .i64 4)) = .int .i64 4 := rfl
    simp [execOp, ho, e1, e2, Instr.sliceAt, Instr.sliceBounds, Instr.sliceBound, run_underlying u22, asIntOf, run_sizeOf' sz5, Instr.sureAddr, add_none]
theorem o_arrayAt79 (hw : want ops S o = some true) {x : Operand} (ho : o.op = .sliceToArrayPointer 79 x) {i off : Nat} (hx : S.av x = some (.s i off 12 12)) : OpOK Try.prog F ops o S { val := .p i off } :=
  ok_value hw fun ρ a w h1 _ _ => by
    have e1 := h1 x (by simp [ho, Op.operands]) _ hx
    simp [execOp, ho, e1, Instr.arrayAt, run_underlying u79]
theorem o_load79 (hw : want ops S o = some true) {x : Operand} (ho : o.op = .load 79 x) {i ty : Nat} {v : Bool} {n : Nat} (hx : S.av x = some (.p i 5)) (hb : S.blk i = some (.mk (adc v n) ty)) :
    OpOK Try.prog F ops o S { val := .v (.agg (b12 n)), rd := [i] } := ok_load_part hw ho hx hb agg79 sz79 rfl (adc_b12 v n)
theorem o_eql79 (hw : want ops S o = some true) {x y : Operand} {t' : TypeId} (ho : o.op = .binOp .eql 79 x y t') {n : Nat} (hx : S.av x = some (.v (.agg (b12 n)))) (hy : S.av y = some (.v (.agg #[.int .u8 0, .int .u8 0, .int .u8 0, .int .u8 0, .int .u8 0, .int .u8 0, .int .u8 0, .int .u8 0, .int .u8 0, .int .u8 0, .int .u8 0, .int .u8 0]))) :
    OpOK Try.prog F ops o S { val := .v (.bool (decide (n % 2 ^ 96 = 0))) } :=
  ok_value hw fun ρ a w h1 _ _ => by
    have e1 := h1 x (by simp [ho, Op.operands]) _ hx
    have e2 := h1 y (by simp [ho, Op.operands]) _ hy
    have hg : (eqGuard .eql 79 x y (.agg (b12 n)) (.agg #[.int .u8 0, .int .u8 0, .int .u8 0, .int .u8 0, .int .u8 0, .int .u8 0, .int .u8 0, .int .u8 0, .int .u8 0, .int .u8 0, .int .u8 0, .int .u8 0])).run Try.prog w = .ok () w := run_eqGuard_agg w .eql 79 x y _ _ (by kernel_rfl)
    simp only [execOp, ho, e1, e2, AV.to_v, Sem.run_bind, hg, Result.andThen_ok, run_lit_eq12 w (b12 n) (b12_get n)]
    rfl
end
theorem side_any (v : Bool) (w : World) : Calls Try.prog 27 #[.bool v] w fun e w' => e = .returned (.int .i64 ((if v then 1 else 0 : Nat) : Int)) ∧ Below w.heap.size w w' := by
  go_enter Try.func27, Try.ntmps27
  have h := Rep.start (N := 4) [.bool v] [undef, undef, undef] w rfl
  apply seq_dag hmix h
  case hw =>
    apply Walk.cons
    · exact ok_assign rfl rfl rfl
    exact Walk.nil _
  case hck => kernel_rfl
  case hQ =>
    intro ρ A w1 h
    refine wp_seq ?_
    apply seq_dag hmix h
    case hw =>
      apply Walk.cons
      · exact ok_move rfl rfl rfl
      exact Walk.nil _
    case hck => kernel_rfl
    case hQ =>
      intro ρ A w1 h
      cases v with
      | true =>
        refine if_true' h rfl ?_
        apply seq_dag hmix h
        case hw =>
          apply Walk.cons
          · exact ok_assign rfl rfl rfl
          exact Walk.nil _
        case hck => kernel_rfl
        case hQ =>
          intro ρ A w1 h
          refine wp_ret ?_
          repeat (first | refine Exit.thenRet ?_ | refine Exit.blockRet ?_)
          refine h.result_tmp Try.results27 rfl ?_
          exact ⟨rfl, h.below⟩
      | false =>
        refine if_false' h rfl (wp_skip (Exit.then_normal ?_))
        apply seq_dag hmix h
        case hw =>
          apply Walk.cons
          · exact ok_assign rfl rfl rfl
          exact Walk.nil _
        case hck => kernel_rfl
        case hQ =>
          intro ρ A w1 h
          refine wp_ret ?_
          repeat (first | refine Exit.thenRet ?_ | refine Exit.blockRet ?_)
          refine h.result_tmp Try.results27 rfl ?_
          exact ⟨rfl, h.below⟩
theorem bit_any (v : Bool) (n i : Nat) (hi : i < 128) (w : World) : Calls Try.prog 28 #[.agg (adc v n), .int .i64 i] w fun e w' => e = .returned (.int .i64 ((bitA n i : Nat) : Int)) ∧ Below w.heap.size w w' := by
  have hs8 : 7 - i % 8 ≤ 8 := by omega
  go_enter Try.func28, Try.ntmps28
  have h := Rep.start (N := 16) [.agg (adc v n), .int .i64 i] [undef, undef, undef, undef, undef, undef, undef, undef, undef, undef, undef, undef, undef, undef] w rfl
  apply seq_dag hmix h
  case hw =>
    apply Walk.cons
    · exact o_box24 2 rfl rfl rfl
    apply Walk.cons
    · exact ok_assign rfl rfl rfl
    exact Walk.nil _
  case hck => kernel_rfl
  case hQ =>
    intro ρ A w1 h
    apply seq_dag hmix h
    case hw =>
      apply Walk.cons
      · exact ok_move rfl rfl rfl
      apply Walk.cons
      · exact o_bin rfl rfl rfl rfl (r_quoi (a := i) (b := 8) (by decide) (by omega))
      apply Walk.cons
      · first | exact ok_fld rfl rfl rfl fo24_1 rfl | exact ok_fld_v rfl rfl rfl fo24_1 rfl
      apply Walk.cons
      · exact o_at22 rfl rfl rfl (j := i / 8) rfl rfl (by omega)
      apply Walk.cons
      · exact o_load5a rfl rfl rfl rfl (by omega)
      apply Walk.cons
      · exact ok_move rfl rfl rfl
      apply Walk.cons
      · exact o_bin rfl rfl rfl rfl (r_remi (a := i) (b := 8) (by decide))
      apply Walk.cons
      · exact o_bin rfl rfl rfl rfl (r_subi (a := 7) (b := i % 8) (by omega) (by decide))
      apply Walk.cons
      · exact o_bin rfl rfl rfl rfl (r_shrb (s := 7 - i % 8) .i64 hs8)
      apply Walk.cons
      · exact o_conv rfl rfl rfl (by kernel_rfl) Try.underlying3 (wrap_small _ (Nat.lt_of_le_of_lt (Nat.div_le_self _ _) (Nat.lt_trans (byteOf_lt _ _) (by decide))))
      apply Walk.cons
      · exact o_bin rfl rfl rfl rfl (r_bit hi)
      apply Walk.cons
      · exact ok_assign rfl rfl rfl
      exact Walk.nil _
    case hck => kernel_rfl
    case hQ =>
      intro ρ A w1 h
      refine wp_ret ?_
      repeat (first | refine Exit.thenRet ?_ | refine Exit.blockRet ?_)
      refine h.result_tmp Try.results28 rfl ?_
      exact ⟨rfl, h.below⟩
theorem valid_any (v : Bool) (n : Nat) (w : World) : Calls Try.prog 26 #[.agg (adc v n)] w fun e w' => e = .returned (.bool (validA v n)) ∧ Below w.heap.size w w' := by
  go_enter Try.func26, Try.ntmps26
  have h := Rep.start (N := 13) [.agg (adc v n)] [undef, undef, undef, undef, undef, undef, undef, undef, undef, undef, undef, undef] w rfl
  apply seq_dag hmix h
  case hw =>
    apply Walk.cons
    · exact o_box24 1 rfl rfl rfl
    apply Walk.cons
    · exact ok_assign rfl rfl rfl
    exact Walk.nil _
  case hck => kernel_rfl
  case hQ =>
    intro ρ A w1 h
    cases v with
    | true =>
      apply seq_dag hmix h
      case hw =>
        apply Walk.cons
        · first | exact ok_fld rfl rfl rfl fo24_0 rfl | exact ok_fld_v rfl rfl rfl fo24_0 rfl
        apply Walk.cons
        · exact ok_load_cell rfl rfl rfl rfl one4 rfl
        apply Walk.cons
        · exact ok_move rfl rfl rfl
        apply Walk.cons
        · first | exact ok_skip rfl | exact ok_fld rfl rfl rfl fo24_1 rfl | exact ok_fld_v rfl rfl rfl fo24_1 rfl
        apply Walk.cons
        · first | exact ok_skip rfl | exact o_slice22 rfl rfl rfl
        apply Walk.cons
        · first | exact ok_skip rfl | exact o_arrayAt79 rfl rfl rfl
        apply Walk.cons
        · first | exact ok_skip rfl | exact o_load79 rfl rfl rfl rfl
        apply Walk.cons
        · first | exact ok_skip rfl | exact o_built rfl rfl (by kernel_rfl) (v := .agg #[.int .u8 0, .int .u8 0, .int .u8 0, .int .u8 0, .int .u8 0, .int .u8 0, .int .u8 0, .int .u8 0, .int .u8 0, .int .u8 0, .int .u8 0, .int .u8 0]) (fun w => by kernel_rfl)
        apply Walk.cons
        · first | exact ok_skip rfl | exact o_eql79 rfl rfl rfl rfl
        apply Walk.cons
        · first | exact ok_pick_true rfl rfl rfl rfl | exact ok_pick_false rfl rfl rfl rfl
        apply Walk.cons
        · exact ok_assign rfl rfl rfl
        exact Walk.nil _
      case hck => kernel_rfl
      case hQ =>
        intro ρ A w1 h
        refine wp_ret ?_
        repeat (first | refine Exit.thenRet ?_ | refine Exit.blockRet ?_)
        refine h.result_tmp Try.results26 rfl ?_
        exact ⟨rfl, h.below⟩
    | false =>
      apply seq_dag hmix h
      case hw =>
        apply Walk.cons
        · first | exact ok_fld rfl rfl rfl fo24_0 rfl | exact ok_fld_v rfl rfl rfl fo24_0 rfl
        apply Walk.cons
        · exact ok_load_cell rfl rfl rfl rfl one4 rfl
        apply Walk.cons
        · exact ok_move rfl rfl rfl
        apply Walk.cons
        · first | exact ok_skip rfl | exact ok_fld rfl rfl rfl fo24_1 rfl | exact ok_fld_v rfl rfl rfl fo24_1 rfl
        apply Walk.cons
        · first | exact ok_skip rfl | exact o_slice22 rfl rfl rfl
        apply Walk.cons
        · first | exact ok_skip rfl | exact o_arrayAt79 rfl rfl rfl
        apply Walk.cons
        · first | exact ok_skip rfl | exact o_load79 rfl rfl rfl rfl
        apply Walk.cons
        · first | exact ok_skip rfl | exact o_built rfl rfl (by kernel_rfl) (v := .agg #[.int .u8 0, .int .u8 0, .int .u8 0, .int .u8 0, .int .u8 0, .int .u8 0, .int .u8 0, .int .u8 0, .int .u8 0, .int .u8 0, .int .u8 0, .int .u8 0]) (fun w => by kernel_rfl)
        apply Walk.cons
        · first | exact ok_skip rfl | exact o_eql79 rfl rfl rfl rfl
        apply Walk.cons
        · first | exact ok_pick_true rfl rfl rfl rfl | exact ok_pick_false rfl rfl rfl rfl
        apply Walk.cons
        · exact ok_assign rfl rfl rfl
        exact Walk.nil _
      case hck => kernel_rfl
      case hQ =>
        intro ρ A w1 h
        refine wp_ret ?_
        repeat (first | refine Exit.thenRet ?_ | refine Exit.blockRet ?_)
        refine h.result_tmp Try.results26 rfl ?_
        exact ⟨by simp [validA], h.below⟩
set_option maxHeartbeats 2000000 in
theorem isPrefix_any (v : Bool) (n : Nat) (b : Int) (w : World) : Calls Try.prog 13 #[.agg (pfc v n b)] w fun e w' => e = .returned (.bool (isPfx v n b)) ∧ Below w.heap.size w w' := by
  go_enter Try.func13, Try.ntmps13
  have h := Rep.start (N := 21) [.agg (pfc v n b)] [undef, undef, undef, undef, undef, undef, undef, undef, undef, undef, undef, undef, undef, undef, undef, undef, undef, undef, undef, undef] w rfl
  apply seq_dag hmix h
  case hw =>
    apply Walk.cons
    · exact o_box31 1 rfl rfl rfl
    apply Walk.cons
    · exact ok_assign rfl rfl rfl
    exact Walk.nil _
  case hck => kernel_rfl
  case hQ =>
    intro ρ A w1 h
    apply seq_dag hmix h
    case hw =>
      apply Walk.cons
      · exact ok_assign rfl rfl rfl
      exact Walk.nil _
    case hck => kernel_rfl
    case hQ =>
      intro ρ A w1 h
      refine wp_seq ?_
      apply seq_dag hmix h
      case hw =>
        apply Walk.cons
        · first | exact ok_fld rfl rfl rfl fo31_0 rfl | exact ok_fld_v rfl rfl rfl fo31_0 rfl
        apply Walk.cons
        · first | exact ok_fld rfl rfl rfl fo24_0 rfl | exact ok_fld_v rfl rfl rfl fo24_0 rfl
        apply Walk.cons
        · exact ok_load_cell rfl rfl rfl rfl one4 rfl
        exact Walk.nil _
      case hck => kernel_rfl
      case hQ =>
        intro ρ A w1 h
        refine wp_mono (Q := fun e a w1 => e = .normal ∧ ∃ ρ, Rep 21 ⟨[(1, .p 1 0), (3, .v (.int .i64 (mostA v : Nat)))], [(1, .mk (pfc v n b) 31)]⟩ ρ { W := w } a w1) ?_ ?_
        · cases v with
          | true =>
            refine if_true' h rfl ?_
            apply region_dag hmix h
            case hw =>
              apply Walk.cons
              · exact ok_assign rfl rfl rfl
              exact Walk.nil _
            case hck => kernel_rfl
            case hQ =>
              intro ρ A w1 h
              exact ⟨rfl, _, h.plain _ ⟨rfl, rfl, trivial⟩ ⟨rfl, trivial⟩ rfl⟩
          | false =>
            refine if_false' h rfl (wp_skip ?_)
            exact ⟨rfl, _, h.plain _ ⟨rfl, rfl, trivial⟩ ⟨rfl, trivial⟩ rfl⟩
        clear h
        rintro e a w1 ⟨rfl, ρ, h⟩
        refine Exit.then_normal ?_
        generalize hm : mostA v = m at h
        generalize hva : validA v n = va
        have hval : ∀ w, Calls Try.prog 26 #[.agg (adc v n)] w fun e w' => e = .returned (.bool va) ∧ Below w.heap.size w w' := fun w => hva ▸ valid_any v n w
        generalize hb1 : decide (b ≥ 0) = b1
        generalize hb2 : decide (b ≤ (m : Nat)) = b2
        have hres : isPfx v n b = (va && (b1 && b2)) := by rw [isPfx, hva, hm, hb1, hb2]
        rw [hres]
        cases va <;> cases b1 <;> cases b2
        · apply seq_dag hmix h
          case hw =>
            apply Walk.cons
            · first | exact ok_fld rfl rfl rfl fo31_0 rfl | exact ok_fld_v rfl rfl rfl fo31_0 rfl
            apply Walk.cons
            · exact o_load24p rfl rfl rfl rfl
            apply Walk.cons
            · exact ok_call_val rfl rfl fn26 [.v _] rfl (rd := []) (fun _ w _ _ => hval w)
            apply Walk.cons
            · exact ok_move rfl rfl rfl
            apply Walk.cons
            · first | exact ok_skip rfl | exact ok_fld rfl rfl rfl fo31_1 rfl | exact ok_fld_v rfl rfl rfl fo31_1 rfl
            apply Walk.cons
            · first | exact ok_skip rfl | exact ok_load_cell rfl rfl rfl rfl one3 rfl
            apply Walk.cons
            · first | exact ok_skip rfl | exact o_bin rfl rfl rfl rfl (r_geqi hb1)
            apply Walk.cons
            · first | exact ok_pick_true rfl rfl rfl rfl | exact ok_pick_false rfl rfl rfl rfl
            apply Walk.cons
            · exact ok_move rfl rfl rfl
            apply Walk.cons
            · first | exact ok_skip rfl | exact ok_fld rfl rfl rfl fo31_1 rfl | exact ok_fld_v rfl rfl rfl fo31_1 rfl
            apply Walk.cons
            · first | exact ok_skip rfl | exact ok_load_cell rfl rfl rfl rfl one3 rfl
            apply Walk.cons
            · first | exact ok_skip rfl | exact ok_move rfl rfl rfl
            apply Walk.cons
            · first | exact ok_skip rfl | exact o_bin rfl rfl rfl rfl (r_leqi hb2)
            apply Walk.cons
            · first | exact ok_pick_true rfl rfl rfl rfl | exact ok_pick_false rfl rfl rfl rfl
            apply Walk.cons
            · exact ok_assign rfl rfl rfl
            exact Walk.nil _
          case hck => kernel_rfl
          case hQ =>
            intro ρ A w1 h
            refine wp_ret ?_
            repeat (first | refine Exit.thenRet ?_ | refine Exit.blockRet ?_)
            refine h.result_tmp Try.results13 rfl ?_
            exact ⟨rfl, h.below⟩
        · apply seq_dag hmix h
          case hw =>
            apply Walk.cons
            · first | exact ok_fld rfl rfl rfl fo31_0 rfl | exact ok_fld_v rfl rfl rfl fo31_0 rfl
            apply Walk.cons
            · exact o_load24p rfl rfl rfl rfl
            apply Walk.cons
            · exact ok_call_val rfl rfl fn26 [.v _] rfl (rd := []) (fun _ w _ _ => hval w)
            apply Walk.cons
            · exact ok_move rfl rfl rfl
            apply Walk.cons
            · first | exact ok_skip rfl | exact ok_fld rfl rfl rfl fo31_1 rfl | exact ok_fld_v rfl rfl rfl fo31_1 rfl
            apply Walk.cons
            · first | exact ok_skip rfl | exact ok_load_cell rfl rfl rfl rfl one3 rfl
            apply Walk.cons
            · first | exact ok_skip rfl | exact o_bin rfl rfl rfl rfl (r_geqi hb1)
            apply Walk.cons
            · first | exact ok_pick_true rfl rfl rfl rfl | exact ok_pick_false rfl rfl rfl rfl
            apply Walk.cons
            · exact ok_move rfl rfl rfl
            apply Walk.cons
            · first | exact ok_skip rfl | exact ok_fld rfl rfl rfl fo31_1 rfl | exact ok_fld_v rfl rfl rfl fo31_1 rfl
            apply Walk.cons
            · first | exact ok_skip rfl | exact ok_load_cell rfl rfl rfl rfl one3 rfl
            apply Walk.cons
            · first | exact ok_skip rfl | exact ok_move rfl rfl rfl
            apply Walk.cons
            · first | exact ok_skip rfl | exact o_bin rfl rfl rfl rfl (r_leqi hb2)
            apply Walk.cons
            · first | exact ok_pick_true rfl rfl rfl rfl | exact ok_pick_false rfl rfl rfl rfl
            apply Walk.cons
            · exact ok_assign rfl rfl rfl
            exact Walk.nil _
          case hck => kernel_rfl
          case hQ =>
            intro ρ A w1 h
            refine wp_ret ?_
            repeat (first | refine Exit.thenRet ?_ | refine Exit.blockRet ?_)
            refine h.result_tmp Try.results13 rfl ?_
            exact ⟨rfl, h.below⟩
        · apply seq_dag hmix h
          case hw =>
            apply Walk.cons
            · first | exact ok_fld rfl rfl rfl fo31_0 rfl | exact ok_fld_v rfl rfl rfl fo31_0 rfl
            apply Walk.cons
            · exact o_load24p rfl rfl rfl rfl
            apply Walk.cons
            · exact ok_call_val rfl rfl fn26 [.v _] rfl (rd := []) (fun _ w _ _ => hval w)
            apply Walk.cons
            · exact ok_move rfl rfl rfl
            apply Walk.cons
            · first | exact ok_skip rfl | exact ok_fld rfl rfl rfl fo31_1 rfl | exact ok_fld_v rfl rfl rfl fo31_1 rfl
            apply Walk.cons
            · first | exact ok_skip rfl | exact ok_load_cell rfl rfl rfl rfl one3 rfl
            apply Walk.cons
            · first | exact ok_skip rfl | exact o_bin rfl rfl rfl rfl (r_geqi hb1)
            apply Walk.cons
            · first | exact ok_pick_true rfl rfl rfl rfl | exact ok_pick_false rfl rfl rfl rfl
            apply Walk.cons
            · exact ok_move rfl rfl rfl
            apply Walk.cons
            · first | exact ok_skip rfl | exact ok_fld rfl rfl rfl fo31_1 rfl | exact ok_fld_v rfl rfl rfl fo31_1 rfl
            apply Walk.cons
            · first | exact ok_skip rfl | exact ok_load_cell rfl rfl rfl rfl one3 rfl
            apply Walk.cons
            · first | exact ok_skip rfl | exact ok_move rfl rfl rfl
            apply Walk.cons
            · first | exact ok_skip rfl | exact o_bin rfl rfl rfl rfl (r_leqi hb2)
            apply Walk.cons
            · first | exact ok_pick_true rfl rfl rfl rfl | exact ok_pick_false rfl rfl rfl rfl
            apply Walk.cons
            · exact ok_assign rfl rfl rfl
            exact Walk.nil _
          case hck => kernel_rfl
          case hQ =>
            intro ρ A w1 h
            refine wp_ret ?_
            repeat (first | refine Exit.thenRet ?_ | refine Exit.blockRet ?_)
            refine h.result_tmp Try.results13 rfl ?_
            exact ⟨rfl, h.below⟩
        · apply seq_dag hmix h
          case hw =>
            apply Walk.cons
            · first | exact ok_fld rfl rfl rfl fo31_0 rfl | exact ok_fld_v rfl rfl rfl fo31_0 rfl
            apply Walk.cons
            · exact o_load24p rfl rfl rfl rfl
            apply Walk.cons
            · exact ok_call_val rfl rfl fn26 [.v _] rfl (rd := []) (fun _ w _ _ => hval w)
            apply Walk.cons
            · exact ok_move rfl rfl rfl
            apply Walk.cons
            · first | exact ok_skip rfl | exact ok_fld rfl rfl rfl fo31_1 rfl | exact ok_fld_v rfl rfl rfl fo31_1 rfl
            apply Walk.cons
            · first | exact ok_skip rfl | exact ok_load_cell rfl rfl rfl rfl one3 rfl
            apply Walk.cons
            · first | exact ok_skip rfl | exact o_bin rfl rfl rfl rfl (r_geqi hb1)
            apply Walk.cons
            · first | exact ok_pick_true rfl rfl rfl rfl | exact ok_pick_false rfl rfl rfl rfl
            apply Walk.cons
            · exact ok_move rfl rfl rfl
            apply Walk.cons
            · first | exact ok_skip rfl | exact ok_fld rfl rfl rfl fo31_1 rfl | exact ok_fld_v rfl rfl rfl fo31_1 rfl
            apply Walk.cons
            · first | exact ok_skip rfl | exact ok_load_cell rfl rfl rfl rfl one3 rfl
            apply Walk.cons
            · first | exact ok_skip rfl | exact ok_move rfl rfl rfl
            apply Walk.cons
            · first | exact ok_skip rfl | exact o_bin rfl rfl rfl rfl (r_leqi hb2)
            apply Walk.cons
            · first | exact ok_pick_true rfl rfl rfl rfl | exact ok_pick_false rfl rfl rfl rfl
            apply Walk.cons
            · exact ok_assign rfl rfl rfl
            exact Walk.nil _
          case hck => kernel_rfl
          case hQ =>
            intro ρ A w1 h
            refine wp_ret ?_
            repeat (first | refine Exit.thenRet ?_ | refine Exit.blockRet ?_)
            refine h.result_tmp Try.results13 rfl ?_
            exact ⟨rfl, h.below⟩
        · apply seq_dag hmix h
          case hw =>
            apply Walk.cons
            · first | exact ok_fld rfl rfl rfl fo31_0 rfl | exact ok_fld_v rfl rfl rfl fo31_0 rfl
            apply Walk.cons
            · exact o_load24p rfl rfl rfl rfl
            apply Walk.cons
            · exact ok_call_val rfl rfl fn26 [.v _] rfl (rd := []) (fun _ w _ _ => hval w)
            apply Walk.cons
            · exact ok_move rfl rfl rfl
            apply Walk.cons
            · first | exact ok_skip rfl | exact ok_fld rfl rfl rfl fo31_1 rfl | exact ok_fld_v rfl rfl rfl fo31_1 rfl
            apply Walk.cons
            · first | exact ok_skip rfl | exact ok_load_cell rfl rfl rfl rfl one3 rfl
            apply Walk.cons
            · first | exact ok_skip rfl | exact o_bin rfl rfl rfl rfl (r_geqi hb1)
            apply Walk.cons
            · first | exact ok_pick_true rfl rfl rfl rfl | exact ok_pick_false rfl rfl rfl rfl
            apply Walk.cons
            · exact ok_move rfl rfl rfl
            apply Walk.cons
            · first | exact ok_skip rfl | exact ok_fld rfl rfl rfl fo31_1 rfl | exact ok_fld_v rfl rfl rfl fo31_1 rfl
            apply Walk.cons
            · first | exact ok_skip rfl | exact ok_load_cell rfl rfl rfl rfl one3 rfl
            apply Walk.cons
            · first | exact ok_skip rfl | exact ok_move rfl rfl rfl
            apply Walk.cons
            · first | exact ok_skip rfl | exact o_bin rfl rfl rfl rfl (r_leqi hb2)
            apply Walk.cons
            · first | exact ok_pick_true rfl rfl rfl rfl | exact ok_pick_false rfl rfl rfl rfl
            apply Walk.cons
            · exact ok_assign rfl rfl rfl
            exact Walk.nil _
          case hck => kernel_rfl
          case hQ =>
            intro ρ A w1 h
            refine wp_ret ?_
            repeat (first | refine Exit.thenRet ?_ | refine Exit.blockRet ?_)
            refine h.result_tmp Try.results13 rfl ?_
            exact ⟨rfl, h.below⟩
        · apply seq_dag hmix h
          case hw =>
            apply Walk.cons
            · first | exact ok_fld rfl rfl rfl fo31_0 rfl | exact ok_fld_v rfl rfl rfl fo31_0 rfl
            apply Walk.cons
            · exact o_load24p rfl rfl rfl rfl
            apply Walk.cons
            · exact ok_call_val rfl rfl fn26 [.v _] rfl (rd := []) (fun _ w _ _ => hval w)
            apply Walk.cons
            · exact ok_move rfl rfl rfl
            apply Walk.cons
            · first | exact ok_skip rfl | exact ok_fld rfl rfl rfl fo31_1 rfl | exact ok_fld_v rfl rfl rfl fo31_1 rfl
            apply Walk.cons
            · first | exact ok_skip rfl | exact ok_load_cell rfl rfl rfl rfl one3 rfl
            apply Walk.cons
            · first | exact ok_skip rfl | exact o_bin rfl rfl rfl rfl (r_geqi hb1)
            apply Walk.cons
            · first | exact ok_pick_true rfl rfl rfl rfl | exact ok_pick_false rfl rfl rfl rfl
            apply Walk.cons
            · exact ok_move rfl rfl rfl
            apply Walk.cons
            · first | exact ok_skip rfl | exact ok_fld rfl rfl rfl fo31_1 rfl | exact ok_fld_v rfl rfl rfl fo31_1 rfl
            apply Walk.cons
            · first | exact ok_skip rfl | exact ok_load_cell rfl rfl rfl rfl one3 rfl
            apply Walk.cons
            · first | exact ok_skip rfl | exact ok_move rfl rfl rfl
            apply Walk.cons
            · first | exact ok_skip rfl | exact o_bin rfl rfl rfl rfl (r_leqi hb2)
            apply Walk.cons
            · first | exact ok_pick_true rfl rfl rfl rfl | exact ok_pick_false rfl rfl rfl rfl
            apply Walk.cons
            · exact ok_assign rfl rfl rfl
            exact Walk.nil _
          case hck => kernel_rfl
          case hQ =>
            intro ρ A w1 h
            refine wp_ret ?_
            repeat (first | refine Exit.thenRet ?_ | refine Exit.blockRet ?_)
            refine h.result_tmp Try.results13 rfl ?_
            exact ⟨rfl, h.below⟩
        · apply seq_dag hmix h
          case hw =>
            apply Walk.cons
            · first | exact ok_fld rfl rfl rfl fo31_0 rfl | exact ok_fld_v rfl rfl rfl fo31_0 rfl
            apply Walk.cons
            · exact o_load24p rfl rfl rfl rfl
            apply Walk.cons
            · exact ok_call_val rfl rfl fn26 [.v _] rfl (rd := []) (fun _ w _ _ => hval w)
            apply Walk.cons
            · exact ok_move rfl rfl rfl
            apply Walk.cons
            · first | exact ok_skip rfl | exact ok_fld rfl rfl rfl fo31_1 rfl | exact ok_fld_v rfl rfl rfl fo31_1 rfl
            apply Walk.cons
            · first | exact ok_skip rfl | exact ok_load_cell rfl rfl rfl rfl one3 rfl
            apply Walk.cons
            · first | exact ok_skip rfl | exact o_bin rfl rfl rfl rfl (r_geqi hb1)
            apply Walk.cons
            · first | exact ok_pick_true rfl rfl rfl rfl | exact ok_pick_false rfl rfl rfl rfl
            apply Walk.cons
            · exact ok_move rfl rfl rfl
            apply Walk.cons
            · first | exact ok_skip rfl | exact ok_fld rfl rfl rfl fo31_1 rfl | exact ok_fld_v rfl rfl rfl fo31_1 rfl
            apply Walk.cons
            · first | exact ok_skip rfl | exact ok_load_cell rfl rfl rfl rfl one3 rfl
            apply Walk.cons
            · first | exact ok_skip rfl | exact ok_move rfl rfl rfl
            apply Walk.cons
            · first | exact ok_skip rfl | exact o_bin rfl rfl rfl rfl (r_leqi hb2)
            apply Walk.cons
            · first | exact ok_pick_true rfl rfl rfl rfl | exact ok_pick_false rfl rfl rfl rfl
            apply Walk.cons
            · exact ok_assign rfl rfl rfl
            exact Walk.nil _
          case hck => kernel_rfl
          case hQ =>
            intro ρ A w1 h
            refine wp_ret ?_
            repeat (first | refine Exit.thenRet ?_ | refine Exit.blockRet ?_)
            refine h.result_tmp Try.results13 rfl ?_
            exact ⟨rfl, h.below⟩
        · apply seq_dag hmix h
          case hw =>
            apply Walk.cons
            · first | exact ok_fld rfl rfl rfl fo31_0 rfl | exact ok_fld_v rfl rfl rfl fo31_0 rfl
            apply Walk.cons
            · exact o_load24p rfl rfl rfl rfl
            apply Walk.cons
            · exact ok_call_val rfl rfl fn26 [.v _] rfl (rd := []) (fun _ w _ _ => hval w)
            apply Walk.cons
            · exact ok_move rfl rfl rfl
            apply Walk.cons
            · first | exact ok_skip rfl | exact ok_fld rfl rfl rfl fo31_1 rfl | exact ok_fld_v rfl rfl rfl fo31_1 rfl
            apply Walk.cons
            · first | exact ok_skip rfl | exact ok_load_cell rfl rfl rfl rfl one3 rfl
            apply Walk.cons
            · first | exact ok_skip rfl | exact o_bin rfl rfl rfl rfl (r_geqi hb1)
            apply Walk.cons
            · first | exact ok_pick_true rfl rfl rfl rfl | exact ok_pick_false rfl rfl rfl rfl
            apply Walk.cons
            · exact ok_move rfl rfl rfl
            apply Walk.cons
            · first | exact ok_skip rfl | exact ok_fld rfl rfl rfl fo31_1 rfl | exact ok_fld_v rfl rfl rfl fo31_1 rfl
            apply Walk.cons
            · first | exact ok_skip rfl | exact ok_load_cell rfl rfl rfl rfl one3 rfl
            apply Walk.cons
            · first | exact ok_skip rfl | exact ok_move rfl rfl rfl
            apply Walk.cons
            · first | exact ok_skip rfl | exact o_bin rfl rfl rfl rfl (r_leqi hb2)
            apply Walk.cons
            · first | exact ok_pick_true rfl rfl rfl rfl | exact ok_pick_false rfl rfl rfl rfl
            apply Walk.cons
            · exact ok_assign rfl rfl rfl
            exact Walk.nil _
          case hck => kernel_rfl
          case hQ =>
            intro ρ A w1 h
            refine wp_ret ?_
            repeat (first | refine Exit.thenRet ?_ | refine Exit.blockRet ?_)
            refine h.result_tmp Try.results13 rfl ?_
            exact ⟨rfl, h.below⟩
end Go.Proofs.Ytnppgaohfegloaa
