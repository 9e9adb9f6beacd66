/-
  aditlaw10.RouteFull: what it hands back is true, for any address and any owner.
-/
import Derived.Test.YtnppgaohfegloaaLaws
namespace Go.Proofs.Ytnppgaohfegloaa
open Go.RowKit

theorem setB_setB (n j a b : Nat) (ha : a < 256) : setB (setB n j a) j b = setB n j b := by
  unfold setB
  refine ofB_congr 16 fun i hi => ?_
  by_cases h : i = 15 - j
  · rw [if_pos h, if_pos h]
  · rw [if_neg h, if_neg h]
    have := byteOf_setB n j a i ha hi
    rw [if_neg h] at this
    exact this
def fm (n k : Nat) : Nat := setB n 7 k
theorem fm_lt (n k : Nat) (hk : k < 256) : fm n k < 2 ^ 128 := setB_lt n 7 k hk
theorem fm_top (n k : Nat) (hk : k < 256) : topD (fm n k) 64 % 256 = k := by
  have h := byteOf_setB n 7 k 8 hk (by decide)
  rw [if_pos rfl] at h
  exact h
theorem fm_inj {n j k : Nat} (hj : j < 256) (hk : k < 256) (h : topD (fm n j) 64 = topD (fm n k) 64) : j = k := by rw [← fm_top n j hj, h, fm_top n k hk]
theorem fm_pfx (n k : Nat) : isPfx true (fm n k) (64 : Nat) = true := by
  simp only [isPfx, validA, Bool.true_or, Bool.true_and]
  decide
def fT (n : Nat) : Nat → Tab
  | 0 => Tab.nil
  | k + 1 => (fT n k).put true (fm n k) 64 (k : Nat)
theorem fT_own (n : Nat) : ∀ k, k ≤ 256 → ∀ v d m, (fT n k).own v d m ≠ none → v = true ∧ d = 64 ∧ ∃ j, j < k ∧ m = topD (fm n j) 64
  | 0, _, v, d, m, h => absurd rfl h
  | k + 1, hk, v, d, m, h => by
    by_cases e : v = true ∧ d = 64 ∧ m = topD (fm n k) 64
    · exact ⟨e.1, e.2.1, k, by omega, e.2.2⟩
    · have h' : (fT n k).own v d m ≠ none := by
        have e2 : (fT n (k + 1)).own v d m = (fT n k).own v d m := updK_ne _ _ e
        rwa [e2] at h
      obtain ⟨h1, h2, j, h3, h4⟩ := fT_own n k (by omega) v d m h'
      exact ⟨h1, h2, j, by omega, h4⟩
theorem fT_has (n : Nat) : ∀ k, k ≤ 256 → ∀ j, j < k → (fT n k).own true 64 (topD (fm n j) 64) ≠ none
  | 0, _, j, h => absurd h (Nat.not_lt_zero j)
  | k + 1, hk, j, hj => by
    by_cases e : j = k
    · subst e
      have e2 : (fT n (j + 1)).own true 64 (topD (fm n j) 64) = some ((j : Nat) : Int) := updK_same _ _ _ _ _
      rw [e2]
      exact fun h => by cases h
    · have e2 : (fT n (k + 1)).own true 64 (topD (fm n j) 64) = (fT n k).own true 64 (topD (fm n j) 64) := updK_ne _ _ fun h => e (fm_inj (by omega) (by omega) h.2.2)
      rw [e2]
      exact fT_has n k (by omega) j (by omega)
theorem fT_new (n k : Nat) (i : Nat) (hk : k ≤ 256) (hi : i < 256) (hik : k ≤ i) : (fT n k).own true 64 (topD (fm n i) 64) = none := by
  cases h : (fT n k).own true 64 (topD (fm n i) 64) with
  | none => rfl
  | some o =>
    obtain ⟨_, _, j, h3, h4⟩ := fT_own n k hk true 64 _ (by rw [h]; exact fun h => by cases h)
    have := fm_inj hi (by omega) h4
    omega
theorem fT_cnt (n : Nat) : ∀ k, k ≤ 256 → (fT n k).cnt = k
  | 0, _ => rfl
  | k + 1, hk => by
    show (if (fT n k).own true 64 (topD (fm n k) 64) = none then (fT n k).cnt + 1 else (fT n k).cnt) = k + 1
    rw [if_pos (fT_new n k k (by omega) (by omega) (Nat.le_refl _)), fT_cnt n k (by omega)]
theorem fT_not (n k : Nat) (hk : k < 64) : ¬ (fT n k).full true (fm n k) 64 := fun h => by
  have := h.2
  rw [fT_cnt n k (by omega)] at this
  omega
theorem fT_full (n : Nat) : (fT n 64).full true (fm n 200) 64 := ⟨fT_new n 64 200 (by decide) (by decide) (by decide), by rw [fT_cnt n 64 (by decide)]; decide⟩
def fE (n : Nat) (o : Int) : Tab := (fT n 64).put true (fm n 5) 64 o
theorem fE_not (n : Nat) : ¬ (fT n 64).full true (fm n 5) 64 := fun h => fT_has n 64 (by decide) 5 (by decide) h.1
theorem fE_cnt (n : Nat) (o : Int) : (fE n o).cnt = 64 := by
  show (if (fT n 64).own true 64 (topD (fm n 5) 64) = none then (fT n 64).cnt + 1 else (fT n 64).cnt) = 64
  rw [if_neg (fT_has n 64 (by decide) 5 (by decide)), fT_cnt n 64 (by decide)]
theorem fE_find (n : Nat) (o : Int) : (fE n o).find true (fm n 5) = some (64, o) := by
  rw [Tab.find, bestTo_more (i := 65) _ (fun j h1 h2 => ?_) (by decide)]
  · exact bestTo_some (updK_same _ _ _ _ _)
  · have e : (fE n o).own true j (topD (fm n 5) j) = (fT n 64).own true j (topD (fm n 5) j) := updK_ne _ _ (by omega)
    rw [e]
    cases h : (fT n 64).own true j (topD (fm n 5) j) with
    | none => rfl
    | some x =>
      have := (fT_own n 64 (by decide) true j _ (by rw [h]; exact fun h => by cases h)).2.1
      omega
def curN (n : Nat) : Nat → Nat
  | 0 => n
  | k + 1 => fm n k
theorem cur_set (n k : Nat) (hk : k < 256) : setB (curN n k) 7 k = fm n k := by
  cases k with
  | zero => rfl
  | succ k => exact setB_setB n 7 k (k + 1) (by omega)
def fuS (n : Nat) (o : Int) (k : Nat) : St := ⟨[(1, .v (.int .i64 o)), (6, .p 15 0), (7, .p 7 0), (8, .v (.int .i64 (k : Nat)))], [(7, .mk (adc true (curN n k)) 24), (15, .ext (tabA (fT n k)))]⟩
def fuX (n : Nat) (o : Int) (j k : Nat) : St := ⟨[(1, .v (.int .i64 o)), (6, .p 15 0), (7, .p 7 0), (8, .v (.int .i64 (k : Nat)))], [(7, .mk (adc true (fm n j)) 24), (15, .ext (tabA (fT n k)))]⟩
set_option maxRecDepth 20000 in
theorem law3_any (v : Bool) (n : Nat) (o : Int) (w : World) : Calls Try.prog 3 #[.agg (adc v n), .int .i64 o] w fun e w' => e = .returned (.bool true) ∧ Below w.heap.size w w' := by
  go_enter Try.func3, Try.ntmps3
  have h := Rep.start (N := 83) [.agg (adc v n), .int .i64 o] [undef, undef, undef, undef, undef, undef, undef, undef, undef, undef, undef, undef, undef, undef, undef, undef, undef, undef, undef, undef, undef, undef, undef, undef, undef, undef, undef, undef, undef, undef, undef, undef, undef, undef, undef, undef, undef, undef, undef, undef, undef, undef, undef, undef, undef, undef, undef, undef, undef, undef, undef, undef, undef, undef, undef, undef, undef, undef, undef, undef, undef, undef, undef, undef, undef, undef, undef, undef, undef, undef, undef, undef, undef, undef, undef, undef, undef, undef, undef, undef, undef] w rfl
  apply seq_dag hmix h
  case hw =>
    apply Walk.cons
    · exact o_box24 2 rfl rfl rfl
    apply Walk.cons
    · exact ok_assign rfl rfl rfl
    exact Walk.nil _
  case hck => kernel_rfl
  case hQ =>
    intro ρ A w1 h
    apply seq_dag hmix h
    case hw =>
      apply Walk.cons
      · exact ok_call_val rfl rfl fn8 [] rfl (rd := []) (fun ρ w _ _ => awake_any w)
      apply Walk.cons
      · exact ok_assign rfl rfl rfl
      exact Walk.nil _
    case hck => kernel_rfl
    case hQ =>
      intro ρ A w1 h
      apply seq_dag hmix h
      case hw =>
        apply Walk.cons
        · exact o_new 15 rfl rfl
        apply Walk.cons
        · exact ok_assign rfl rfl rfl
        exact Walk.nil _
      case hck => kernel_rfl
      case hQ =>
        intro ρ A w1 h
        refine wp_seq ?_
        apply seq_dag hmix h
        case hw =>
          apply Walk.cons
          · exact ok_move rfl rfl rfl
          apply Walk.cons
          · exact ok_not rfl rfl rfl rfl
          apply Walk.cons
          · exact ok_move rfl rfl rfl
          apply Walk.cons
          · first | exact ok_skip rfl | exact ok_move rfl rfl rfl
          apply Walk.cons
          · first | exact ok_skip rfl | exact o_nonnil rfl rfl (.inl rfl) rfl rfl
          apply Walk.cons
          · first | exact ok_pick_true rfl rfl rfl rfl | exact ok_pick_false rfl rfl rfl rfl
          exact Walk.nil _
        case hck => kernel_rfl
        case hQ =>
          intro ρ A w1 h
          refine if_false' h rfl (wp_skip (Exit.then_normal ?_))
          apply seq_dag hmix h
          case hw =>
            apply Walk.cons
            · first | exact ok_fld rfl rfl rfl fo24_1 rfl | exact ok_fld_v rfl rfl rfl fo24_1 rfl
            apply Walk.cons
            · exact o_load22 rfl rfl rfl rfl
            apply Walk.cons
            · exact o_built rfl rfl (by kernel_rfl) (v := .agg (adc true n)) (fun w => by kernel_rfl)
            apply Walk.cons
            · exact o_alloc24 7 rfl rfl
            apply Walk.cons
            · exact o_store24 rfl rfl rfl rfl rfl
            exact Walk.nil _
          case hck => kernel_rfl
          case hQ =>
            intro ρ A w1 h
            refine wp_seq ?_
            apply seq_dag hmix h
            case hw =>
              apply Walk.cons
              · exact ok_assign rfl rfl rfl
              exact Walk.nil _
            case hck => kernel_rfl
            case hQ =>
              intro ρ A w1 h
              have h := h.plain (fuS n o 0) ⟨rfl, rfl, rfl, rfl, trivial⟩ ⟨rfl, rfl, trivial⟩ rfl
              refine wp_block ?_
              refine rep_loop 64 (fuS n o) h ?_
              clear h
              intro k ρ A w2 hk h
              by_cases hlt : k < 64
              · refine wp_seq ?_
                apply seq_dag hmix h
                case hw =>
                  apply Walk.cons
                  · exact ok_move rfl rfl rfl
                  apply Walk.cons
                  · exact o_bin rfl rfl rfl rfl (r_lss (a := k) (b := 64) (decide_eq_true hlt))
                  exact Walk.nil _
                case hck => kernel_rfl
                case hQ =>
                  intro ρ A w1 h
                  refine if_true' h rfl (wp_skip ?_)
                  refine Exit.then_normal ?_
                  refine wp_seq (wp_block ?_)
                  apply seq_dag hmix h
                  case hw =>
                    apply Walk.cons
                    · exact ok_move rfl rfl rfl
                    apply Walk.cons
                    · exact o_conv rfl rfl rfl (by kernel_rfl) Try.underlying5 (c := (k : Nat)) (by rw [IntKind.wrap_u8]; omega)
                    apply Walk.cons
                    · first | exact ok_fld rfl rfl rfl fo24_1 rfl | exact ok_fld_v rfl rfl rfl fo24_1 rfl
                    apply Walk.cons
                    · exact o_at22 rfl rfl rfl rfl rfl (by decide)
                    apply Walk.cons
                    · first | exact o_store5a rfl rfl rfl rfl rfl (by decide) (by omega) | exact o_store5p rfl rfl rfl rfl rfl (by decide) (by omega)
                    exact Walk.nil _
                  case hck => kernel_rfl
                  case hQ =>
                    intro ρ A w1 h
                    have h := h.plain (fuX n o k k) ⟨rfl, rfl, rfl, rfl, trivial⟩ ⟨by rw [← cur_set n k (by omega)]; rfl, rfl, trivial⟩ rfl
                    apply seq_dag hmix h
                    case hw =>
                      apply Walk.cons
                      · exact ok_move rfl rfl rfl
                      apply Walk.cons
                      · first | exact o_load24 rfl rfl rfl rfl | exact o_load24p rfl rfl rfl rfl
                      apply Walk.cons
                      · exact o_built rfl rfl (by kernel_rfl) (v := .agg (pfc true (fm n k) (64 : Nat))) (fun w => by kernel_rfl)
                      apply Walk.cons
                      · exact ok_move rfl rfl rfl
                      apply Walk.cons
                      · exact o_put_ok (n := fm n k) (b := 64) (M := fT n k) rfl rfl rfl rfl (fm_lt _ _ (by omega)) (fm_pfx _ _) (fT_not n k hlt)
                      apply Walk.cons
                      · exact o_bin rfl rfl rfl rfl (r_neqz (decide_eq_false (by decide)))
                      exact Walk.nil _
                    case hck => kernel_rfl
                    case hQ =>
                      intro ρ A w1 h
                      refine if_false' h rfl (wp_skip ?_)
                      refine Exit.block_normal (Exit.then_normal ?_)
                      apply region_dag hmix h
                      case hw =>
                        apply Walk.cons
                        · exact ok_move rfl rfl rfl
                        apply Walk.cons
                        · exact o_bin rfl rfl rfl rfl (r_addi (a := k) (b := 1) (by omega))
                        apply Walk.cons
                        · exact ok_assign rfl rfl rfl
                        exact Walk.nil _
                      case hck => kernel_rfl
                      case hQ =>
                        intro ρ A w1 h
                        exact ⟨_, hlt, h.plain (fuS n o (k + 1)) ⟨rfl, rfl, rfl, rfl, trivial⟩ ⟨rfl, rfl, trivial⟩ rfl⟩
              · obtain rfl : k = 64 := by omega
                refine wp_seq ?_
                apply seq_dag hmix h
                case hw =>
                  apply Walk.cons
                  · exact ok_move rfl rfl rfl
                  apply Walk.cons
                  · exact o_bin rfl rfl rfl rfl (r_lss (a := 64) (b := 64) (decide_eq_false (by decide)))
                  exact Walk.nil _
                case hck => kernel_rfl
                case hQ =>
                  intro ρ A w1 h
                  refine if_false' h rfl (wp_exit (at_exit' ?_))
                  refine Exit.then_normal ?_
                  apply seq_dag hmix h
                  case hw =>
                    apply Walk.cons
                    · first | exact ok_fld rfl rfl rfl fo24_1 rfl | exact ok_fld_v rfl rfl rfl fo24_1 rfl
                    apply Walk.cons
                    · exact o_at22 rfl rfl rfl rfl rfl (by decide)
                    apply Walk.cons
                    · exact o_store5a rfl rfl rfl rfl rfl (c := 200) (by decide) (by decide)
                    exact Walk.nil _
                  case hck => kernel_rfl
                  case hQ =>
                    intro ρ A w1 h
                    have h := h.plain (fuX n o 200 64) ⟨rfl, rfl, rfl, rfl, trivial⟩ ⟨by show _ = some (Blk.mk (adc true (fm n 200)) 24); rw [show fm n 200 = setB (fm n 63) 7 200 from (setB_setB n 7 63 200 (by decide)).symm]; rfl, rfl, trivial⟩ rfl
                    apply seq_dag hmix h
                    case hw =>
                      apply Walk.cons
                      · exact ok_move rfl rfl rfl
                      apply Walk.cons
                      · first | exact o_load24 rfl rfl rfl rfl | exact o_load24p rfl rfl rfl rfl
                      apply Walk.cons
                      · exact o_built rfl rfl (by kernel_rfl) (v := .agg (pfc true (fm n 200) (64 : Nat))) (fun w => by kernel_rfl)
                      apply Walk.cons
                      · exact o_put_full (n := fm n 200) (b := 64) (M := fT n 64) rfl rfl rfl rfl (fm_lt _ _ (by omega)) (fm_pfx _ _) (fT_full n)
                      apply Walk.cons
                      · exact o_bin rfl rfl rfl rfl (r_eqlz (decide_eq_true (by decide)))
                      apply Walk.cons
                      · exact ok_assign rfl rfl rfl
                      exact Walk.nil _
                    case hck => kernel_rfl
                    case hQ =>
                      intro ρ A w1 h
                      apply seq_dag hmix h
                      case hw =>
                        apply Walk.cons
                        · first | exact ok_fld rfl rfl rfl fo24_1 rfl | exact ok_fld_v rfl rfl rfl fo24_1 rfl
                        apply Walk.cons
                        · exact o_at22 rfl rfl rfl rfl rfl (by decide)
                        apply Walk.cons
                        · exact o_store5a rfl rfl rfl rfl rfl (c := 5) (by decide) (by decide)
                        exact Walk.nil _
                      case hck => kernel_rfl
                      case hQ =>
                        intro ρ A w1 h
                        have h := h.plain ⟨(9, .v (.bool true)) :: (fuX n o 5 64).slots, (fuX n o 5 64).mem⟩ ⟨rfl, rfl, rfl, rfl, rfl, trivial⟩ ⟨by show _ = some (Blk.mk (adc true (fm n 5)) 24); rw [show fm n 5 = setB (fm n 200) 7 5 from (setB_setB n 7 200 5 (by decide)).symm]; rfl, rfl, trivial⟩ rfl
                        apply seq_dag hmix h
                        case hw =>
                          apply Walk.cons
                          · exact ok_move rfl rfl rfl
                          apply Walk.cons
                          · first | exact o_load24 rfl rfl rfl rfl | exact o_load24p rfl rfl rfl rfl
                          apply Walk.cons
                          · exact o_built rfl rfl (by kernel_rfl) (v := .agg (pfc true (fm n 5) (64 : Nat))) (fun w => by kernel_rfl)
                          apply Walk.cons
                          · exact ok_move rfl rfl rfl
                          apply Walk.cons
                          · exact o_put_ok (n := fm n 5) (b := 64) (M := fT n 64) rfl rfl rfl rfl (fm_lt _ _ (by omega)) (fm_pfx _ _) (fE_not n)
                          apply Walk.cons
                          · exact o_bin rfl rfl rfl rfl (r_eqlz (decide_eq_true (by decide)))
                          apply Walk.cons
                          · exact ok_assign rfl rfl rfl
                          exact Walk.nil _
                        case hck => kernel_rfl
                        case hQ =>
                          intro ρ A w1 h
                          apply seq_dag hmix h
                          case hw =>
                            apply Walk.cons
                            · exact ok_move rfl rfl rfl
                            apply Walk.cons
                            · first | exact o_load24 rfl rfl rfl rfl | exact o_load24p rfl rfl rfl rfl
                            apply Walk.cons
                            · exact o_find (n := fm n 5) (M := fE n o) rfl rfl rfl rfl (fm_lt _ _ (by omega)) rfl (fE_find n o)
                            apply Walk.cons
                            · exact ok_move rfl rfl rfl
                            apply Walk.cons
                            · exact ok_extract rfl rfl rfl rfl
                            apply Walk.cons
                            · exact ok_extract rfl rfl rfl rfl
                            apply Walk.cons
                            · exact ok_extract rfl rfl rfl rfl
                            apply Walk.cons
                            · exact o_alloc31 12 rfl rfl
                            apply Walk.cons
                            · exact ok_assign rfl rfl rfl
                            apply Walk.cons
                            · exact o_store31 rfl rfl rfl rfl rfl
                            apply Walk.cons
                            · exact ok_assign rfl rfl rfl
                            exact Walk.nil _
                          case hck => kernel_rfl
                          case hQ =>
                            intro ρ A w1 h
                            apply seq_dag hmix h
                            case hw =>
                              apply Walk.cons
                              · exact ok_move rfl rfl rfl
                              apply Walk.cons
                              · exact ok_move rfl rfl rfl
                              apply Walk.cons
                              · first | exact ok_skip rfl | exact ok_move rfl rfl rfl
                              apply Walk.cons
                              · first | exact ok_pick_true rfl rfl rfl rfl | exact ok_pick_false rfl rfl rfl rfl
                              apply Walk.cons
                              · exact ok_move rfl rfl rfl
                              apply Walk.cons
                              · first | exact ok_skip rfl | exact ok_move rfl rfl rfl
                              apply Walk.cons
                              · first | exact ok_pick_true rfl rfl rfl rfl | exact ok_pick_false rfl rfl rfl rfl
                              apply Walk.cons
                              · exact ok_move rfl rfl rfl
                              apply Walk.cons
                              · first | exact ok_skip rfl | exact ok_move rfl rfl rfl
                              apply Walk.cons
                              · first | exact ok_skip rfl | exact ok_move rfl rfl rfl
                              apply Walk.cons
                              · exact o_bin rfl rfl rfl rfl (r_eqlz (decide_eq_true rfl))
                              apply Walk.cons
                              · first | exact ok_pick_true rfl rfl rfl rfl | exact ok_pick_false rfl rfl rfl rfl
                              apply Walk.cons
                              · exact ok_move rfl rfl rfl
                              apply Walk.cons
                              · first | exact ok_skip rfl | exact ok_fld rfl rfl rfl fo31_1 rfl | exact ok_fld_v rfl rfl rfl fo31_1 rfl
                              apply Walk.cons
                              · exact ok_load_cell rfl rfl rfl rfl one3 rfl
                              apply Walk.cons
                              · exact o_bin rfl rfl rfl rfl (r_eqlz (decide_eq_true rfl))
                              apply Walk.cons
                              · first | exact ok_pick_true rfl rfl rfl rfl | exact ok_pick_false rfl rfl rfl rfl
                              apply Walk.cons
                              · exact ok_move rfl rfl rfl
                              apply Walk.cons
                              · first | exact ok_skip rfl | exact ok_move rfl rfl rfl
                              apply Walk.cons
                              · exact o_len (M := fE n o) (c := 64) rfl rfl rfl rfl (fE_cnt n o)
                              apply Walk.cons
                              · exact o_bin rfl rfl rfl rfl (r_eqlz (decide_eq_true rfl))
                              apply Walk.cons
                              · first | exact ok_pick_true rfl rfl rfl rfl | exact ok_pick_false rfl rfl rfl rfl
                              apply Walk.cons
                              · exact ok_assign rfl rfl rfl
                              exact Walk.nil _
                            case hck => kernel_rfl
                            case hQ =>
                              intro ρ A w1 h
                              refine wp_ret ?_
                              repeat (first | refine Exit.thenRet ?_ | refine Exit.blockRet ?_)
                              refine h.result_tmp Try.results3 rfl ?_
                              exact ⟨rfl, h.below⟩
end Go.Proofs.Ytnppgaohfegloaa
