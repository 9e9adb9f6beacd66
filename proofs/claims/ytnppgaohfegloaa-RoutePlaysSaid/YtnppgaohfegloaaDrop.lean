/-
  The walk of Drop, of a prefix that is somebody's; the document's own tests of an address.
-/
import Derived.Test.YtnppgaohfegloaaRules2
namespace Go.Proofs.Ytnppgaohfegloaa
open Go.RowKit

set_option maxRecDepth 20000 in
set_option maxHeartbeats 1000000 in
theorem drop_yes {t : Nat} {f : Nat → Prop} {M : Tab} (v : Bool) (n b : Nat) (hn : n < 2 ^ 128) (hp' : isPfx v n (b : Nat) = true) {o : Int} (ho : M.own v b (topD n b) = some o) (hc1 : 1 ≤ M.cnt) (hc2 : M.cnt < 9223372036854775808) (w : World) (hA : (tabA M).holds t f (hp w)) :
    Calls Try.prog 15 #[.pointer (some ⟨t, 0, none⟩), .agg (pfc v n (b : Nat))] w fun e w' => e = .returned (.tuple #[.int .i64 o, .bool true]) ∧ TabOut t f (M.drop v n b) w w' := by
  have hb := pfx128 hp'
  have hpre : ∀ w, Calls Try.prog 13 #[.agg (pfc v n (b : Nat))] w fun e w' => e = .returned (.bool true) ∧ Below w.heap.size w w' := fun w => hp' ▸ isPrefix_any v n b w
  obtain ⟨ids, T, hI, hf, hT⟩ := hA
  subst hf
  obtain ⟨q, hq⟩ : ∃ q, ids v b (topD n b) = some q := by
    cases hq : ids v b (topD n b) with
    | none => exact absurd hq (hI.has _ _ _ (by rw [ho]; exact fun h => by cases h))
    | some q => exact ⟨q, rfl⟩
  have hnode := hI.node _ _ _ _ hq
  have howned : (nodeC ids M v b (topD n b))[2]? = some (.bool true) := by
    show some (Value.bool (M.own v b (topD n b)).isSome) = _
    rw [ho]; rfl
  have howner : (nodeC ids M v b (topD n b))[3]? = some (.int .i64 o) := by
    show some (Value.int .i64 ((M.own v b (topD n b)).getD 0)) = _
    rw [ho]; rfl
  go_enter Try.func15, Try.ntmps15
  have h := Rep.startA (N := 49) (heapA T) t (fun n => T n ≠ none) [.pointer (some ⟨t, 0, none⟩), .agg (pfc v n (b : Nat))] [undef, undef, undef, undef, undef, undef, undef, undef, undef, undef, undef, undef, undef, undef, undef, undef, undef, undef, undef, undef, undef, undef, undef, undef, undef, undef, undef, undef, undef, undef, undef, undef, undef, undef, undef, undef, undef, undef, undef, undef, undef, undef, undef, undef, undef, undef, undef] w ⟨rfl, hT⟩ rfl
  apply seq_dag hmix h
  case hw =>
    apply Walk.cons
    · exact o_box31 3 rfl rfl rfl
    apply Walk.cons
    · exact ok_assign rfl rfl rfl
    apply Walk.cons
    · exact ok_assign rfl rfl rfl
    exact Walk.nil _
  case hck => kernel_rfl
  case hQ =>
    intro ρ A w1 h
    apply seq_dag hmix h
    case hw =>
      apply Walk.cons
      · exact ok_assign rfl rfl rfl
      exact Walk.nil _
    case hck => kernel_rfl
    case hQ =>
      intro ρ A w1 h
      refine wp_seq ?_
      apply seq_dag hmix h
      case hw =>
        apply Walk.cons
        · exact ok_move rfl rfl rfl
        apply Walk.cons
        · exact ok_pure rfl (by kernel_rfl) (v := .bool false) (fun w => by kernel_rfl)
        apply Walk.cons
        · exact ok_move rfl rfl rfl
        apply Walk.cons
        · first | exact ok_skip rfl | exact ok_skip_u rfl | exact o_load31 rfl rfl rfl rfl | exact o_load31op rfl rfl rfl rfl
        apply Walk.cons
        · first | exact ok_skip rfl | exact ok_skip_u rfl | exact ok_call_val rfl rfl fn13 [.v _] rfl (rd := []) (fun _ w _ _ => hpre w)
        apply Walk.cons
        · first | exact ok_skip rfl | exact ok_skip_u rfl | exact ok_not rfl rfl rfl rfl
        apply Walk.cons
        · first | exact ok_pick_true rfl rfl rfl rfl | exact ok_pick_false rfl rfl rfl rfl
        exact Walk.nil _
      case hck => kernel_rfl
      case hQ =>
        intro ρ A w1 h
        refine if_false' h rfl (wp_skip (Exit.then_normal ?_))
        apply seq_dag hmix h
        case hw =>
          apply Walk.cons
          · exact ok_move rfl rfl rfl
          apply Walk.cons
          · first | exact o_load31 rfl rfl rfl rfl | exact o_load31op rfl rfl rfl rfl
          apply Walk.cons
          · exact ok_call_val rfl rfl fn25 [.v _, .v _, .v _] rfl (rd := [0]) (fun ρ w h0 _ => down_no hI v n b hn hb w (h0 0 (by simp) _ rfl).2)
          apply Walk.cons
          · exact ok_assign rfl rfl rfl
          exact Walk.nil _
        case hck => kernel_rfl
        case hQ =>
          intro ρ A w1 h
          rw [hq] at h
          refine wp_seq ?_
          apply seq_dag hmix h
          case hw =>
            apply Walk.cons
            · exact ok_move rfl rfl rfl
            apply Walk.cons
            · exact ok_pure rfl (by kernel_rfl) (v := .bool false) (fun w => by kernel_rfl)
            apply Walk.cons
            · exact ok_move rfl rfl rfl
            apply Walk.cons
            · first | exact ok_skip rfl | exact ok_skip_u rfl | exact ok_move rfl rfl rfl
            apply Walk.cons
            · first | exact ok_skip rfl | exact ok_skip_u rfl | exact ok_nil rfl rfl rfl | exact ok_nil_v rfl rfl rfl
            apply Walk.cons
            · first | exact ok_skip rfl | exact ok_skip_u rfl | exact ok_fld rfl rfl rfl fo64_1 rfl | exact ok_fld_v rfl rfl rfl fo64_1 rfl
            apply Walk.cons
            · first | exact ok_skip rfl | exact ok_skip_u rfl | exact ok_hload rfl rfl (i := 0) rfl rfl hnode one4 howned
            apply Walk.cons
            · first | exact ok_skip rfl | exact ok_skip_u rfl | exact ok_not rfl rfl rfl rfl
            apply Walk.cons
            · first | exact ok_pick_true rfl rfl rfl rfl | exact ok_pick_false rfl rfl rfl rfl
            exact Walk.nil _
          case hck => kernel_rfl
          case hQ =>
            intro ρ A w1 h
            refine if_false' h rfl (wp_skip (Exit.then_normal ?_))
            apply seq_dag hmix h
            case hw =>
              apply Walk.cons
              · exact ok_move rfl rfl rfl
              apply Walk.cons
              · first | exact ok_nil rfl rfl rfl | exact ok_nil_v rfl rfl rfl
              apply Walk.cons
              · first | exact ok_fld rfl rfl rfl fo64_2 rfl | exact ok_fld_v rfl rfl rfl fo64_2 rfl
              apply Walk.cons
              · exact ok_hload rfl rfl (i := 0) rfl rfl hnode one3 howner
              apply Walk.cons
              · exact ok_assign rfl rfl rfl
              exact Walk.nil _
            case hck => kernel_rfl
            case hQ =>
              intro ρ A w1 h
              refine seq_list ?_
              refine wpl_step h rfl (ok_move rfl rfl rfl) rfl rfl rfl rfl ?_
              intro ρ A w3 h
              refine wpl_step h rfl (ok_move rfl rfl rfl) rfl rfl rfl rfl ?_
              intro ρ A w3 h
              refine wpl_step h rfl (ok_move rfl rfl rfl) rfl rfl rfl rfl ?_
              intro ρ A w3 h
              refine wpl_step h rfl (ok_nil_v rfl rfl rfl) rfl rfl rfl rfl ?_
              intro ρ A w3 h
              refine wpl_step h rfl (ok_fld_v rfl rfl rfl fo64_1 rfl) rfl rfl rfl rfl ?_
              intro ρ A w3 h
              refine wpl_step h rfl (ok_hstore rfl rfl (i := 0) rfl rfl rfl hnode sz4 rfl (show 0 + 2 < 22 by decide) rfl) rfl rfl rfl rfl ?_
              intro ρ A w3 h
              refine wpl_step h rfl (ok_nil_v rfl rfl rfl) rfl rfl rfl rfl ?_
              intro ρ A w3 h
              refine wpl_step h rfl (ok_fld_v rfl rfl rfl fo64_2 rfl) rfl rfl rfl rfl ?_
              intro ρ A w3 h
              refine wpl_step h rfl (ok_hstore rfl rfl (i := 0) rfl rfl rfl (Hp.set_same _ _ _) sz3 rfl (by rw [Array.size_setIfInBounds, size_nodeC]; decide) (nodeC_drop ids M v b (topD n b) M.cnt)) rfl rfl rfl rfl ?_
              intro ρ A w3 h
              refine wpList_nil ?_
              refine Exit.then_normal ?_
              have hI2 := hI.setOwn hq none
              have h := h.plain ⟨[(0, .v (.pointer (some ⟨t, 0, none⟩))), (8, .v (.int .i64 o))], [(0, .ext (heapA ((T.set q (cobj ((nodeC ids M v b (topD n b)).setIfInBounds 2 (.bool false)) 64)).set q (cobj (nodeC ids ⟨updK M.own v b (topD n b) none, M.cnt⟩ v b (topD n b)) 64))))]⟩ ⟨rfl, rfl, trivial⟩ ⟨rfl, trivial⟩ rfl
              rw [Hp.set_set] at h
              generalize T.set q (cobj (nodeC ids ⟨updK M.own v b (topD n b) none, M.cnt⟩ v b (topD n b)) 64) = T2 at hI2 h
              refine seq_list ?_
              refine wpl_step h rfl (ok_move rfl rfl rfl) rfl rfl rfl rfl ?_
              intro ρ A w3 h
              refine wpl_step h rfl (ok_nil_v rfl rfl rfl) rfl rfl rfl rfl ?_
              intro ρ A w3 h
              refine wpl_step h rfl (ok_fld_v rfl rfl rfl fo60_1 rfl) rfl rfl rfl rfl ?_
              intro ρ A w3 h
              refine wpl_step h rfl (ok_hload rfl rfl (i := 0) rfl rfl hI2.root one3 rfl) rfl rfl rfl rfl ?_
              intro ρ A w3 h
              refine wpl_step h rfl (o_bin rfl rfl rfl rfl (r_subi (a := M.cnt) (b := 1) hc1 hc2)) rfl rfl rfl rfl ?_
              intro ρ A w3 h
              refine wpl_step h rfl (ok_nil_v rfl rfl rfl) rfl rfl rfl rfl ?_
              intro ρ A w3 h
              refine wpl_step h rfl (ok_fld_v rfl rfl rfl fo60_1 rfl) rfl rfl rfl rfl ?_
              intro ρ A w3 h
              refine wpl_step h rfl (ok_hstore rfl rfl (i := 0) rfl rfl rfl hI2.root sz3 rfl (show 0 + 2 < 3 by decide) (tabC_cnt ids ⟨updK M.own v b (topD n b) none, M.cnt⟩ (M.cnt - 1))) rfl rfl rfl rfl ?_
              intro ρ A w3 h
              refine wpList_nil ?_
              refine Exit.then_normal ?_
              have hI3 := hI2.setCnt (M.cnt - 1)
              apply seq_dag hmix h
              case hw =>
                apply Walk.cons
                · exact ok_move rfl rfl rfl
                apply Walk.cons
                · exact ok_assign rfl rfl rfl
                apply Walk.cons
                · exact ok_assign rfl rfl rfl
                exact Walk.nil _
              case hck => kernel_rfl
              case hQ =>
                intro ρ A w1 h
                refine wp_ret ?_
                repeat (first | refine Exit.thenRet ?_ | refine Exit.blockRet ?_)
                refine h.result_tmp2 Try.results15 rfl rfl ?_
                exact ⟨rfl, (h.made (i := 0) (t := t) (M := M) rfl).out hI3⟩

/-! ### the document's own tests -/
theorem low_byte {n : Nat} (h : n % 2 ^ 96 ≠ 0) : ∃ j, j < 12 ∧ byteOf n (11 - j) ≠ 0 := by
  apply Classical.byContradiction
  intro hno
  have : ((List.range 12).all fun i => byteOf n (11 - i) == 0) = true := by
    simp only [List.all_eq_true, List.mem_range, beq_iff_eq]
    intro i hi
    apply Classical.byContradiction
    intro hne
    exact hno ⟨i, hi, hne⟩
  rw [low96] at this
  exact h (of_decide_eq_true this)
theorem low_zero {n : Nat} (h : n % 2 ^ 96 = 0) (j : Nat) (hj : j < 12) : byteOf n (11 - j) = 0 := by
  have : ((List.range 12).all fun i => byteOf n (11 - i) == 0) = true := by rw [low96]; exact decide_eq_true h
  have := List.all_eq_true.1 this j (List.mem_range.2 hj)
  simpa using this
theorem rvalid_any (v : Bool) (n : Nat) (w : World) : Calls Try.prog 29 #[.agg (adc v n)] w fun e w' => e = .returned (.bool (validA v n)) ∧ Below w.heap.size w w' := by
  go_enter Try.func29, Try.ntmps29
  have h := Rep.start (N := 18) [.agg (adc v n)] [undef, undef, undef, undef, undef, undef, undef, undef, undef, undef, undef, undef, undef, undef, undef, undef, undef] w rfl
  apply seq_dag hmix h
  case hw =>
    apply Walk.cons
    · exact o_box24 1 rfl rfl rfl
    apply Walk.cons
    · exact ok_assign rfl rfl rfl
    exact Walk.nil _
  case hck => kernel_rfl
  case hQ =>
    intro ρ A w1 h
    refine wp_seq ?_
    apply seq_dag hmix h
    case hw =>
      apply Walk.cons
      · exact ok_assign rfl rfl rfl
      exact Walk.nil _
    case hck => kernel_rfl
    case hQ =>
      intro ρ A w1 h
      refine wp_block ?_
      refine rep_loop_by (fun k => 12 - k) (fun (k : Nat) => (⟨[(1, .p 1 0), (3, .v (.int .i64 ((4 + k : Nat) : Int)))], [(1, .mk (adc v n) 24)]⟩ : St)) (fun k => k ≤ 12 ∧ (v = false → ∀ j, j < k → byteOf n (11 - j) = 0)) 0 ⟨Nat.zero_le _, fun _ j hj => absurd hj (Nat.not_lt_zero j)⟩ (h.plain _ ⟨rfl, rfl, trivial⟩ ⟨rfl, trivial⟩ rfl) ?_
      clear h
      rintro k ρ A w2 ⟨hk, hz⟩ h
      cases v with
      | true =>
        refine wp_seq ?_
        by_cases hk12 : k < 12
        · apply seq_dag hmix h
          case hw =>
            apply Walk.cons
            · exact ok_move rfl rfl rfl
            apply Walk.cons
            · exact o_bin rfl rfl rfl rfl (r_lss (a := 4 + k) (b := 16) (decide_eq_true (by omega)))
            apply Walk.cons
            · exact ok_move rfl rfl rfl
            apply Walk.cons
            · first | exact ok_skip rfl | exact ok_skip_u rfl | exact ok_fld rfl rfl rfl fo24_0 rfl | exact ok_fld_v rfl rfl rfl fo24_0 rfl
            apply Walk.cons
            · first | exact ok_skip rfl | exact ok_skip_u rfl | exact ok_load_cell rfl rfl rfl rfl one4 rfl
            apply Walk.cons
            · first | exact ok_skip rfl | exact ok_skip_u rfl | exact ok_not rfl rfl rfl rfl
            apply Walk.cons
            · first | exact ok_pick_true rfl rfl rfl rfl | exact ok_pick_false rfl rfl rfl rfl
            exact Walk.nil _
          case hck => kernel_rfl
          case hQ =>
            intro ρ A w1 h
            refine if_false' h rfl (wp_exit (at_exit' ?_))
            refine Exit.then_normal ?_
            apply seq_dag hmix h
            case hw =>
              apply Walk.cons
              · exact ok_assign rfl rfl rfl
              exact Walk.nil _
            case hck => kernel_rfl
            case hQ =>
              intro ρ A w1 h
              refine wp_ret ?_
              repeat (first | refine Exit.thenRet ?_ | refine Exit.blockRet ?_)
              refine h.result_tmp Try.results29 rfl ?_
              exact ⟨rfl, h.below⟩
        · apply seq_dag hmix h
          case hw =>
            apply Walk.cons
            · exact ok_move rfl rfl rfl
            apply Walk.cons
            · exact o_bin rfl rfl rfl rfl (r_lss (a := 4 + k) (b := 16) (decide_eq_false (by omega)))
            apply Walk.cons
            · exact ok_move rfl rfl rfl
            apply Walk.cons
            · first | exact ok_skip rfl | exact ok_skip_u rfl | exact ok_fld rfl rfl rfl fo24_0 rfl | exact ok_fld_v rfl rfl rfl fo24_0 rfl
            apply Walk.cons
            · first | exact ok_skip rfl | exact ok_skip_u rfl | exact ok_load_cell rfl rfl rfl rfl one4 rfl
            apply Walk.cons
            · first | exact ok_skip rfl | exact ok_skip_u rfl | exact ok_not rfl rfl rfl rfl
            apply Walk.cons
            · first | exact ok_pick_true rfl rfl rfl rfl | exact ok_pick_false rfl rfl rfl rfl
            exact Walk.nil _
          case hck => kernel_rfl
          case hQ =>
            intro ρ A w1 h
            refine if_false' h rfl (wp_exit (at_exit' ?_))
            refine Exit.then_normal ?_
            apply seq_dag hmix h
            case hw =>
              apply Walk.cons
              · exact ok_assign rfl rfl rfl
              exact Walk.nil _
            case hck => kernel_rfl
            case hQ =>
              intro ρ A w1 h
              refine wp_ret ?_
              repeat (first | refine Exit.thenRet ?_ | refine Exit.blockRet ?_)
              refine h.result_tmp Try.results29 rfl ?_
              exact ⟨rfl, h.below⟩
      | false =>
        refine wp_seq ?_
        by_cases hk12 : k < 12
        · apply seq_dag hmix h
          case hw =>
            apply Walk.cons
            · exact ok_move rfl rfl rfl
            apply Walk.cons
            · exact o_bin rfl rfl rfl rfl (r_lss (a := 4 + k) (b := 16) (decide_eq_true (by omega)))
            apply Walk.cons
            · exact ok_move rfl rfl rfl
            apply Walk.cons
            · first | exact ok_skip rfl | exact ok_skip_u rfl | exact ok_fld rfl rfl rfl fo24_0 rfl | exact ok_fld_v rfl rfl rfl fo24_0 rfl
            apply Walk.cons
            · first | exact ok_skip rfl | exact ok_skip_u rfl | exact ok_load_cell rfl rfl rfl rfl one4 rfl
            apply Walk.cons
            · first | exact ok_skip rfl | exact ok_skip_u rfl | exact ok_not rfl rfl rfl rfl
            apply Walk.cons
            · first | exact ok_pick_true rfl rfl rfl rfl | exact ok_pick_false rfl rfl rfl rfl
            exact Walk.nil _
          case hck => kernel_rfl
          case hQ =>
            intro ρ A w1 h
            refine if_true' h rfl (wp_skip ?_)
            refine Exit.then_normal ?_
            refine wp_seq (wp_block ?_)
            by_cases hb0 : byteOf n (15 - (4 + k)) = 0
            · apply seq_dag hmix h
              case hw =>
                apply Walk.cons
                · exact ok_move rfl rfl rfl
                apply Walk.cons
                · first | exact ok_fld rfl rfl rfl fo24_1 rfl | exact ok_fld_v rfl rfl rfl fo24_1 rfl
                apply Walk.cons
                · exact o_at22 rfl rfl rfl (j := 4 + k) rfl rfl (by omega)
                apply Walk.cons
                · exact o_load5a rfl rfl rfl rfl (j := 4 + k) (by omega)
                apply Walk.cons
                · exact o_bin rfl rfl rfl rfl (r_neqi (a := byteOf n (15 - (4 + k))) (b := 0) (decide_eq_false (fun hne => hne hb0)))
                exact Walk.nil _
              case hck => kernel_rfl
              case hQ =>
                intro ρ A w1 h
                refine if_false' h rfl (wp_skip ?_)
                refine Exit.block_normal (Exit.then_normal ?_)
                apply region_dag hmix h
                case hw =>
                  apply Walk.cons
                  · exact ok_move rfl rfl rfl
                  apply Walk.cons
                  · exact o_bin rfl rfl rfl rfl (r_addi (a := 4 + k) (b := 1) (by omega))
                  apply Walk.cons
                  · exact ok_assign rfl rfl rfl
                  exact Walk.nil _
                case hck => kernel_rfl
                case hQ =>
                  intro ρ A w1 h
                  refine ⟨k + 1, _, by omega, ⟨by omega, fun _ j hj => ?_⟩, h.plain _ ⟨rfl, rfl, trivial⟩ ⟨rfl, trivial⟩ rfl⟩
                  by_cases e : j = k
                  · subst e
                    rwa [show 15 - (4 + j) = 11 - j by omega] at hb0
                  · exact hz rfl j (by omega)
            · apply seq_dag hmix h
              case hw =>
                apply Walk.cons
                · exact ok_move rfl rfl rfl
                apply Walk.cons
                · first | exact ok_fld rfl rfl rfl fo24_1 rfl | exact ok_fld_v rfl rfl rfl fo24_1 rfl
                apply Walk.cons
                · exact o_at22 rfl rfl rfl (j := 4 + k) rfl rfl (by omega)
                apply Walk.cons
                · exact o_load5a rfl rfl rfl rfl (j := 4 + k) (by omega)
                apply Walk.cons
                · exact o_bin rfl rfl rfl rfl (r_neqi (a := byteOf n (15 - (4 + k))) (b := 0) (decide_eq_true hb0))
                exact Walk.nil _
              case hck => kernel_rfl
              case hQ =>
                intro ρ A w1 h
                refine if_true' h rfl ?_
                apply seq_dag hmix h
                case hw =>
                  apply Walk.cons
                  · exact ok_assign rfl rfl rfl
                  exact Walk.nil _
                case hck => kernel_rfl
                case hQ =>
                  intro ρ A w1 h
                  refine wp_ret ?_
                  repeat (first | refine Exit.thenRet ?_ | refine Exit.blockRet ?_)
                  refine h.result_tmp Try.results29 rfl ?_
                  exact ⟨by rw [validA, Bool.false_or, decide_eq_false (fun h0 => hb0 (by rw [show 15 - (4 + k) = 11 - k by omega]; exact low_zero h0 k hk12))], h.below⟩
        · apply seq_dag hmix h
          case hw =>
            apply Walk.cons
            · exact ok_move rfl rfl rfl
            apply Walk.cons
            · exact o_bin rfl rfl rfl rfl (r_lss (a := 4 + k) (b := 16) (decide_eq_false (by omega)))
            apply Walk.cons
            · exact ok_move rfl rfl rfl
            apply Walk.cons
            · first | exact ok_skip rfl | exact ok_skip_u rfl | exact ok_fld rfl rfl rfl fo24_0 rfl | exact ok_fld_v rfl rfl rfl fo24_0 rfl
            apply Walk.cons
            · first | exact ok_skip rfl | exact ok_skip_u rfl | exact ok_load_cell rfl rfl rfl rfl one4 rfl
            apply Walk.cons
            · first | exact ok_skip rfl | exact ok_skip_u rfl | exact ok_not rfl rfl rfl rfl
            apply Walk.cons
            · first | exact ok_pick_true rfl rfl rfl rfl | exact ok_pick_false rfl rfl rfl rfl
            exact Walk.nil _
          case hck => kernel_rfl
          case hQ =>
            intro ρ A w1 h
            refine if_false' h rfl (wp_exit (at_exit' ?_))
            refine Exit.then_normal ?_
            have hall : n % 2 ^ 96 = 0 := by
              apply Classical.byContradiction
              intro hne
              obtain ⟨j, hj, hb⟩ := low_byte hne
              exact hb (hz rfl j (by omega))
            apply seq_dag hmix h
            case hw =>
              apply Walk.cons
              · exact ok_assign rfl rfl rfl
              exact Walk.nil _
            case hck => kernel_rfl
            case hQ =>
              intro ρ A w1 h
              refine wp_ret ?_
              repeat (first | refine Exit.thenRet ?_ | refine Exit.blockRet ?_)
              refine h.result_tmp Try.results29 rfl ?_
              exact ⟨by rw [validA, Bool.false_or, decide_eq_true hall], h.below⟩
theorem rbit_any (v : Bool) (n i : Nat) (hi : i < 128) (w : World) : Calls Try.prog 30 #[.agg (adc v n), .int .i64 i] w fun e w' => e = .returned (.int .i64 ((bitA n i : Nat) : Int)) ∧ Below w.heap.size w w' := by
  have hlt := byteOf_lt n (15 - i / 8)
  have hbb := byte_bit n i hi
  go_enter Try.func30, Try.ntmps30
  have h := Rep.start (N := 23) [.agg (adc v n), .int .i64 i] [undef, undef, undef, undef, undef, undef, undef, undef, undef, undef, undef, undef, undef, undef, undef, undef, undef, undef, undef, undef, undef] w rfl
  apply seq_dag hmix h
  case hw =>
    apply Walk.cons
    · exact o_box24 2 rfl rfl rfl
    apply Walk.cons
    · exact ok_assign rfl rfl rfl
    exact Walk.nil _
  case hck => kernel_rfl
  case hQ =>
    intro ρ A w1 h
    apply seq_dag hmix h
    case hw =>
      apply Walk.cons
      · exact ok_move rfl rfl rfl
      apply Walk.cons
      · exact o_bin rfl rfl rfl rfl (r_quoi (a := i) (b := 8) (by decide) (by omega))
      apply Walk.cons
      · first | exact ok_fld rfl rfl rfl fo24_1 rfl | exact ok_fld_v rfl rfl rfl fo24_1 rfl
      apply Walk.cons
      · exact o_at22 rfl rfl rfl (j := i / 8) rfl rfl (by omega)
      apply Walk.cons
      · exact o_load5a rfl rfl rfl rfl (j := i / 8) (by omega)
      apply Walk.cons
      · exact o_conv rfl rfl rfl (by kernel_rfl) Try.underlying3 (wrap_small _ (Nat.lt_trans hlt (by decide)))
      apply Walk.cons
      · exact ok_assign rfl rfl rfl
      exact Walk.nil _
    case hck => kernel_rfl
    case hQ =>
      intro ρ A w1 h
      refine wp_seq ?_
      apply seq_dag hmix h
      case hw =>
        apply Walk.cons
        · exact ok_move rfl rfl rfl
        apply Walk.cons
        · exact o_bin rfl rfl rfl rfl (r_remi (a := i) (b := 8) (by decide))
        apply Walk.cons
        · exact ok_assign rfl rfl rfl
        exact Walk.nil _
      case hck => kernel_rfl
      case hQ =>
        intro ρ A w1 h
        refine wp_block ?_
        refine rep_loop (7 - i % 8) (fun (k : Nat) => (⟨[(5, .v (.int .i64 ((byteOf n (15 - i / 8) / 2 ^ k : Nat) : Int))), (6, .v (.int .i64 ((i % 8 + k : Nat) : Int)))], []⟩ : St)) (h.plain _ ⟨by rw [Nat.pow_zero, Nat.div_one]; rfl, rfl, trivial⟩ trivial rfl) ?_
        clear h
        intro k ρ A w2 hk h
        by_cases hlt7 : k < 7 - i % 8
        · refine wp_seq ?_
          apply seq_dag hmix h
          case hw =>
            apply Walk.cons
            · exact ok_move rfl rfl rfl
            apply Walk.cons
            · exact o_bin rfl rfl rfl rfl (r_lss (a := i % 8 + k) (b := 7) (decide_eq_true (by omega)))
            exact Walk.nil _
          case hck => kernel_rfl
          case hQ =>
            intro ρ A w1 h
            refine if_true' h rfl (wp_skip ?_)
            refine Exit.then_normal ?_
            refine wp_seq (wp_block ?_)
            have hsm : byteOf n (15 - i / 8) / 2 ^ k < 9223372036854775808 := Nat.lt_of_le_of_lt (Nat.div_le_self _ _) (Nat.lt_trans hlt (by decide))
            apply region_dag hmix h
            case hw =>
              apply Walk.cons
              · exact ok_move rfl rfl rfl
              apply Walk.cons
              · exact o_bin rfl rfl rfl rfl (r_quoi (a := byteOf n (15 - i / 8) / 2 ^ k) (b := 2) (by decide) hsm)
              apply Walk.cons
              · exact ok_assign rfl rfl rfl
              exact Walk.nil _
            case hck => kernel_rfl
            case hQ =>
              intro ρ A w1 h
              refine Exit.block_normal (Exit.then_normal ?_)
              apply region_dag hmix h
              case hw =>
                apply Walk.cons
                · exact ok_move rfl rfl rfl
                apply Walk.cons
                · exact o_bin rfl rfl rfl rfl (r_addi (a := i % 8 + k) (b := 1) (by omega))
                apply Walk.cons
                · exact ok_assign rfl rfl rfl
                exact Walk.nil _
              case hck => kernel_rfl
              case hQ =>
                intro ρ A w1 h
                exact ⟨_, hlt7, h.plain _ ⟨by rw [Nat.pow_succ, ← Nat.div_div_eq_div_mul]; rfl, rfl, trivial⟩ trivial rfl⟩
        · obtain rfl : k = 7 - i % 8 := by omega
          refine wp_seq ?_
          apply seq_dag hmix h
          case hw =>
            apply Walk.cons
            · exact ok_move rfl rfl rfl
            apply Walk.cons
            · exact o_bin rfl rfl rfl rfl (r_lss (a := i % 8 + (7 - i % 8)) (b := 7) (decide_eq_false (by omega)))
            exact Walk.nil _
          case hck => kernel_rfl
          case hQ =>
            intro ρ A w1 h
            refine if_false' h rfl (wp_exit (at_exit' ?_))
            refine Exit.then_normal ?_
            apply seq_dag hmix h
            case hw =>
              apply Walk.cons
              · exact ok_move rfl rfl rfl
              apply Walk.cons
              · exact o_bin rfl rfl rfl rfl (r_remi (a := byteOf n (15 - i / 8) / 2 ^ (7 - i % 8)) (b := 2) (by decide))
              apply Walk.cons
              · exact ok_assign rfl rfl rfl
              exact Walk.nil _
            case hck => kernel_rfl
            case hQ =>
              intro ρ A w1 h
              refine wp_ret ?_
              repeat (first | refine Exit.thenRet ?_ | refine Exit.blockRet ?_)
              refine h.result_tmp Try.results30 rfl ?_
              exact ⟨by rw [hbb], h.below⟩
def hasA (v : Bool) (n b : Nat) (v' : Bool) (x : Nat) : Prop := v = v' ∧ validA v' x = true ∧ ∀ i, i < b → bitA n i = bitA x i
noncomputable def hasB (v : Bool) (n b : Nat) (v' : Bool) (x : Nat) : Bool := @decide (hasA v n b v' x) (Classical.propDecidable _)
theorem hasB_true {v : Bool} {n b : Nat} {v' : Bool} {x : Nat} (h : hasB v n b v' x = true) : hasA v n b v' x := @of_decide_eq_true _ (Classical.propDecidable _) h
theorem hasB_of {v : Bool} {n b : Nat} {v' : Bool} {x : Nat} (h : hasA v n b v' x) : hasB v n b v' x = true := @decide_eq_true _ (Classical.propDecidable _) h
theorem hasB_not {v : Bool} {n b : Nat} {v' : Bool} {x : Nat} (h : ¬ hasA v n b v' x) : hasB v n b v' x = false := @decide_eq_false _ (Classical.propDecidable _) h
theorem has_top {n x : Nat} (hn : n < 2 ^ 128) (hx : x < 2 ^ 128) : ∀ b, b ≤ 128 → (∀ i, i < b → bitA n i = bitA x i) → topD n b = topD x b
  | 0, _, _ => by rw [topD_zero hn, topD_zero hx]
  | b + 1, hb, h => by rw [topD_next n b (by omega), topD_next x b (by omega), has_top hn hx b (by omega) (fun i hi => h i (by omega)), h b (by omega)]
theorem has_any (v : Bool) (n b : Nat) (v' : Bool) (x : Nat) (hb : b ≤ 128) (w : World) : Calls Try.prog 16 #[.agg (pfc v n (b : Nat)), .agg (adc v' x)] w fun e w' => e = .returned (.bool (hasB v n b v' x)) ∧ Below w.heap.size w w' := by
  go_enter Try.func16, Try.ntmps16
  have h := Rep.start (N := 33) [.agg (pfc v n (b : Nat)), .agg (adc v' x)] [undef, undef, undef, undef, undef, undef, undef, undef, undef, undef, undef, undef, undef, undef, undef, undef, undef, undef, undef, undef, undef, undef, undef, undef, undef, undef, undef, undef, undef, undef, undef] w rfl
  apply seq_dag hmix h
  case hw =>
    apply Walk.cons
    · exact o_box31 2 rfl rfl rfl
    apply Walk.cons
    · exact o_box24 3 rfl rfl rfl
    apply Walk.cons
    · exact ok_assign rfl rfl rfl
    exact Walk.nil _
  case hck => kernel_rfl
  case hQ =>
    intro ρ A w1 h
    apply seq_dag hmix h
    case hw =>
      apply Walk.cons
      · first | exact o_load24 rfl rfl rfl rfl | exact o_load24p rfl rfl rfl rfl
      apply Walk.cons
      · exact ok_call_val rfl rfl fn29 [.v _] rfl (rd := []) (fun _ w _ _ => rvalid_any _ _ w)
      apply Walk.cons
      · exact ok_assign rfl rfl rfl
      exact Walk.nil _
    case hck => kernel_rfl
    case hQ =>
      intro ρ A w1 h
      generalize hva : validA v' x = va at h
      refine wp_seq ?_
      refine wp_join (fun a w3 => ∃ ρ, va = true ∧ v = v' ∧ Rep 33 ⟨[(2, .p 2 0), (3, .p 3 0)], [(2, .mk (pfc v n (b : Nat)) 31), (3, .mk (adc v' x) 24)]⟩ ρ { W := w } a w3) ?_ ?_
      · cases va with
        | false =>
          apply seq_dag hmix h
          case hw =>
            apply Walk.cons
            · exact ok_move rfl rfl rfl
            apply Walk.cons
            · exact ok_not rfl rfl rfl rfl
            apply Walk.cons
            · exact ok_move rfl rfl rfl
            apply Walk.cons
            · first | exact ok_skip rfl | exact ok_skip_u rfl | exact ok_fld rfl rfl rfl fo31_0 rfl | exact ok_fld_v rfl rfl rfl fo31_0 rfl
            apply Walk.cons
            · first | exact ok_skip rfl | exact ok_skip_u rfl | exact ok_fld rfl rfl rfl fo24_0 rfl | exact ok_fld_v rfl rfl rfl fo24_0 rfl
            apply Walk.cons
            · first | exact ok_skip rfl | exact ok_skip_u rfl | exact ok_load_cell rfl rfl rfl rfl one4 rfl
            apply Walk.cons
            · first | exact ok_skip rfl | exact ok_skip_u rfl | exact ok_fld rfl rfl rfl fo24_0 rfl | exact ok_fld_v rfl rfl rfl fo24_0 rfl
            apply Walk.cons
            · first | exact ok_skip rfl | exact ok_skip_u rfl | exact ok_load_cell rfl rfl rfl rfl one4 rfl
            apply Walk.cons
            · first | exact ok_skip rfl | exact ok_skip_u rfl | exact o_neqb rfl rfl rfl rfl rfl
            apply Walk.cons
            · first | exact ok_pick_true rfl rfl rfl rfl | exact ok_pick_false rfl rfl rfl rfl
            exact Walk.nil _
          case hck => kernel_rfl
          case hQ =>
            intro ρ A w1 h
            refine if_true' h rfl ?_
            apply seq_dag hmix h
            case hw =>
              apply Walk.cons
              · exact ok_assign rfl rfl rfl
              exact Walk.nil _
            case hck => kernel_rfl
            case hQ =>
              intro ρ A w1 h
              refine wp_ret ?_
              repeat (first | refine Exit.thenRet ?_ | refine Exit.blockRet ?_)
              refine h.result_tmp Try.results16 rfl ?_
              exact ⟨by rw [hasB_not (fun hx => by have := hx.2.1; rw [hva] at this; cases this)], h.below⟩
        | true =>
          cases hvv : (v != v') with
          | true =>
            apply seq_dag hmix h
            case hw =>
              apply Walk.cons
              · exact ok_move rfl rfl rfl
              apply Walk.cons
              · exact ok_not rfl rfl rfl rfl
              apply Walk.cons
              · exact ok_move rfl rfl rfl
              apply Walk.cons
              · first | exact ok_skip rfl | exact ok_skip_u rfl | exact ok_fld rfl rfl rfl fo31_0 rfl | exact ok_fld_v rfl rfl rfl fo31_0 rfl
              apply Walk.cons
              · first | exact ok_skip rfl | exact ok_skip_u rfl | exact ok_fld rfl rfl rfl fo24_0 rfl | exact ok_fld_v rfl rfl rfl fo24_0 rfl
              apply Walk.cons
              · first | exact ok_skip rfl | exact ok_skip_u rfl | exact ok_load_cell rfl rfl rfl rfl one4 rfl
              apply Walk.cons
              · first | exact ok_skip rfl | exact ok_skip_u rfl | exact ok_fld rfl rfl rfl fo24_0 rfl | exact ok_fld_v rfl rfl rfl fo24_0 rfl
              apply Walk.cons
              · first | exact ok_skip rfl | exact ok_skip_u rfl | exact ok_load_cell rfl rfl rfl rfl one4 rfl
              apply Walk.cons
              · first | exact ok_skip rfl | exact ok_skip_u rfl | exact o_neqb rfl rfl rfl rfl hvv
              apply Walk.cons
              · first | exact ok_pick_true rfl rfl rfl rfl | exact ok_pick_false rfl rfl rfl rfl
              exact Walk.nil _
            case hck => kernel_rfl
            case hQ =>
              intro ρ A w1 h
              refine if_true' h rfl ?_
              apply seq_dag hmix h
              case hw =>
                apply Walk.cons
                · exact ok_assign rfl rfl rfl
                exact Walk.nil _
              case hck => kernel_rfl
              case hQ =>
                intro ρ A w1 h
                refine wp_ret ?_
                repeat (first | refine Exit.thenRet ?_ | refine Exit.blockRet ?_)
                refine h.result_tmp Try.results16 rfl ?_
                exact ⟨by rw [hasB_not (fun hx => by have := hx.1; simp [this] at hvv)], h.below⟩
          | false =>
            apply seq_dag hmix h
            case hw =>
              apply Walk.cons
              · exact ok_move rfl rfl rfl
              apply Walk.cons
              · exact ok_not rfl rfl rfl rfl
              apply Walk.cons
              · exact ok_move rfl rfl rfl
              apply Walk.cons
              · first | exact ok_skip rfl | exact ok_skip_u rfl | exact ok_fld rfl rfl rfl fo31_0 rfl | exact ok_fld_v rfl rfl rfl fo31_0 rfl
              apply Walk.cons
              · first | exact ok_skip rfl | exact ok_skip_u rfl | exact ok_fld rfl rfl rfl fo24_0 rfl | exact ok_fld_v rfl rfl rfl fo24_0 rfl
              apply Walk.cons
              · first | exact ok_skip rfl | exact ok_skip_u rfl | exact ok_load_cell rfl rfl rfl rfl one4 rfl
              apply Walk.cons
              · first | exact ok_skip rfl | exact ok_skip_u rfl | exact ok_fld rfl rfl rfl fo24_0 rfl | exact ok_fld_v rfl rfl rfl fo24_0 rfl
              apply Walk.cons
              · first | exact ok_skip rfl | exact ok_skip_u rfl | exact ok_load_cell rfl rfl rfl rfl one4 rfl
              apply Walk.cons
              · first | exact ok_skip rfl | exact ok_skip_u rfl | exact o_neqb rfl rfl rfl rfl hvv
              apply Walk.cons
              · first | exact ok_pick_true rfl rfl rfl rfl | exact ok_pick_false rfl rfl rfl rfl
              exact Walk.nil _
            case hck => kernel_rfl
            case hQ =>
              intro ρ A w1 h
              refine if_false' h rfl (wp_skip (Exit.then_normal ?_))
              exact ⟨_, rfl, by simpa using hvv, h.plain _ ⟨rfl, rfl, trivial⟩ ⟨rfl, rfl, trivial⟩ rfl⟩
      · clear h
        rintro a w3 ⟨ρ, hv, hvv, h⟩
        subst hv
        refine wp_seq ?_
        apply seq_dag hmix h
        case hw =>
          apply Walk.cons
          · exact ok_assign rfl rfl rfl
          exact Walk.nil _
        case hck => kernel_rfl
        case hQ =>
          intro ρ A w1 h
          refine wp_block ?_
          refine rep_loop_by (fun k => b - k) (fun (k : Nat) => (⟨[(2, .p 2 0), (3, .p 3 0), (6, .v (.int .i64 (k : Nat)))], [(2, .mk (pfc v n (b : Nat)) 31), (3, .mk (adc v' x) 24)]⟩ : St)) (fun k => k ≤ b ∧ ∀ i, i < k → bitA n i = bitA x i) 0 ⟨Nat.zero_le _, fun j hj => absurd hj (Nat.not_lt_zero j)⟩ (h.plain _ ⟨rfl, rfl, rfl, trivial⟩ ⟨rfl, rfl, trivial⟩ rfl) ?_
          clear h
          rintro k ρ A w4 ⟨hk, hz⟩ h
          by_cases hkb : k < b
          · refine wp_seq ?_
            apply seq_dag hmix h
            case hw =>
              apply Walk.cons
              · exact ok_move rfl rfl rfl
              apply Walk.cons
              · first | exact ok_fld rfl rfl rfl fo31_1 rfl | exact ok_fld_v rfl rfl rfl fo31_1 rfl
              apply Walk.cons
              · exact ok_load_cell rfl rfl rfl rfl one3 rfl
              apply Walk.cons
              · exact o_bin rfl rfl rfl rfl (r_lss (a := k) (b := b) (decide_eq_true hkb))
              exact Walk.nil _
            case hck => kernel_rfl
            case hQ =>
              intro ρ A w1 h
              refine if_true' h rfl (wp_skip ?_)
              refine Exit.then_normal ?_
              refine wp_seq (wp_block ?_)
              by_cases hbe : bitA n k = bitA x k
              · apply seq_dag hmix h
                case hw =>
                  apply Walk.cons
                  · first | exact ok_fld rfl rfl rfl fo31_0 rfl | exact ok_fld_v rfl rfl rfl fo31_0 rfl
                  apply Walk.cons
                  · exact o_load24p rfl rfl rfl rfl
                  apply Walk.cons
                  · exact ok_move rfl rfl rfl
                  apply Walk.cons
                  · exact ok_call_val rfl rfl fn30 [.v _, .v _] rfl (rd := []) (fun _ w _ _ => rbit_any _ _ k (by omega) w)
                  apply Walk.cons
                  · first | exact o_load24 rfl rfl rfl rfl | exact o_load24p rfl rfl rfl rfl
                  apply Walk.cons
                  · exact ok_move rfl rfl rfl
                  apply Walk.cons
                  · exact ok_call_val rfl rfl fn30 [.v _, .v _] rfl (rd := []) (fun _ w _ _ => rbit_any _ _ k (by omega) w)
                  apply Walk.cons
                  · exact o_bin rfl rfl rfl rfl (r_neqi (a := bitA n k) (b := bitA x k) (decide_eq_false (fun hne => hne hbe)))
                  exact Walk.nil _
                case hck => kernel_rfl
                case hQ =>
                  intro ρ A w1 h
                  refine if_false' h rfl (wp_skip ?_)
                  refine Exit.block_normal (Exit.then_normal ?_)
                  apply region_dag hmix h
                  case hw =>
                    apply Walk.cons
                    · exact ok_move rfl rfl rfl
                    apply Walk.cons
                    · exact o_bin rfl rfl rfl rfl (r_addi (a := k) (b := 1) (by omega))
                    apply Walk.cons
                    · exact ok_assign rfl rfl rfl
                    exact Walk.nil _
                  case hck => kernel_rfl
                  case hQ =>
                    intro ρ A w1 h
                    refine ⟨k + 1, _, by omega, ⟨by omega, fun i hi => ?_⟩, h.plain _ ⟨rfl, rfl, rfl, trivial⟩ ⟨rfl, rfl, trivial⟩ rfl⟩
                    by_cases e : i = k
                    · rw [e]; exact hbe
                    · exact hz i (by omega)
              · apply seq_dag hmix h
                case hw =>
                  apply Walk.cons
                  · first | exact ok_fld rfl rfl rfl fo31_0 rfl | exact ok_fld_v rfl rfl rfl fo31_0 rfl
                  apply Walk.cons
                  · exact o_load24p rfl rfl rfl rfl
                  apply Walk.cons
                  · exact ok_move rfl rfl rfl
                  apply Walk.cons
                  · exact ok_call_val rfl rfl fn30 [.v _, .v _] rfl (rd := []) (fun _ w _ _ => rbit_any _ _ k (by omega) w)
                  apply Walk.cons
                  · first | exact o_load24 rfl rfl rfl rfl | exact o_load24p rfl rfl rfl rfl
                  apply Walk.cons
                  · exact ok_move rfl rfl rfl
                  apply Walk.cons
                  · exact ok_call_val rfl rfl fn30 [.v _, .v _] rfl (rd := []) (fun _ w _ _ => rbit_any _ _ k (by omega) w)
                  apply Walk.cons
                  · exact o_bin rfl rfl rfl rfl (r_neqi (a := bitA n k) (b := bitA x k) (decide_eq_true hbe))
                  exact Walk.nil _
                case hck => kernel_rfl
                case hQ =>
                  intro ρ A w1 h
                  refine if_true' h rfl ?_
                  apply seq_dag hmix h
                  case hw =>
                    apply Walk.cons
                    · exact ok_assign rfl rfl rfl
                    exact Walk.nil _
                  case hck => kernel_rfl
                  case hQ =>
                    intro ρ A w1 h
                    refine wp_ret ?_
                    repeat (first | refine Exit.thenRet ?_ | refine Exit.blockRet ?_)
                    refine h.result_tmp Try.results16 rfl ?_
                    exact ⟨by rw [hasB_not (fun hx => hbe (hx.2.2 k hkb))], h.below⟩
          · refine wp_seq ?_
            apply seq_dag hmix h
            case hw =>
              apply Walk.cons
              · exact ok_move rfl rfl rfl
              apply Walk.cons
              · first | exact ok_fld rfl rfl rfl fo31_1 rfl | exact ok_fld_v rfl rfl rfl fo31_1 rfl
              apply Walk.cons
              · exact ok_load_cell rfl rfl rfl rfl one3 rfl
              apply Walk.cons
              · exact o_bin rfl rfl rfl rfl (r_lss (a := k) (b := b) (decide_eq_false hkb))
              exact Walk.nil _
            case hck => kernel_rfl
            case hQ =>
              intro ρ A w1 h
              refine if_false' h rfl (wp_exit (at_exit' ?_))
              refine Exit.then_normal ?_
              apply seq_dag hmix h
              case hw =>
                apply Walk.cons
                · exact ok_assign rfl rfl rfl
                exact Walk.nil _
              case hck => kernel_rfl
              case hQ =>
                intro ρ A w1 h
                refine wp_ret ?_
                repeat (first | refine Exit.thenRet ?_ | refine Exit.blockRet ?_)
                refine h.result_tmp Try.results16 rfl ?_
                exact ⟨by rw [hasB_of ⟨hvv, hva, fun i hi => hz i (by omega)⟩], h.below⟩
end Go.Proofs.Ytnppgaohfegloaa
