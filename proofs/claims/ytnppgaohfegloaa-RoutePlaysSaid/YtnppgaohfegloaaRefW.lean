/-
  The document's Whole: the prefix whose bits behind it are zero, made bit by bit.
-/
import Derived.Test.YtnppgaohfegloaaRefA
namespace Go.Proofs.Ytnppgaohfegloaa
open Go.RowKit

theorem r_mul8 {P : Program} {t : TypeId} {a b : Nat} (h : a * b < 256) (w : World) : (binOp .mul t (.int .u8 a) (.int .u8 b)).run P w = .ok (.int .u8 ((a * b : Nat) : Int)) w := by
  show Result.ok (Value.int .u8 (IntKind.u8.wrap ((a : Int) * b))) w = _
  rw [← Int.natCast_mul, show IntKind.u8.wrap ((a * b : Nat) : Int) = ((a * b : Nat) : Int) from by rw [IntKind.wrap_u8]; omega]
theorem r_add8 {P : Program} {t : TypeId} {a b : Nat} (h : a + b < 256) (w : World) : (binOp .add t (.int .u8 a) (.int .u8 b)).run P w = .ok (.int .u8 ((a + b : Nat) : Int)) w := by
  show Result.ok (Value.int .u8 (IntKind.u8.wrap ((a : Int) + b))) w = _
  rw [← Int.natCast_add, show IntKind.u8.wrap ((a + b : Nat) : Int) = ((a + b : Nat) : Int) from by rw [IntKind.wrap_u8]; omega]
/-- an address of which i bits have been laid -/
def wF (m i k : Nat) : Nat := byteOf m k / 2 ^ (8 - (i - 8 * (15 - k)))
def wN (m i : Nat) : Nat := ofB (wF m i) 16
theorem wF_lt (m i k : Nat) : wF m i k < 256 := Nat.lt_of_le_of_lt (Nat.div_le_self _ _) (byteOf_lt _ _)
theorem wN_lt (m i : Nat) : wN m i < 2 ^ 128 := by
  have := ofB_lt (wF m i) 16 (fun k _ => wF_lt m i k)
  simpa [wN] using this
theorem wN_byte (m i k : Nat) (hk : k < 16) : byteOf (wN m i) k = wF m i k := ofB_byte _ 16 (fun k _ => wF_lt m i k) k hk
theorem wN_zero (m : Nat) : wN m 0 = 0 := by
  refine byte_ext (wN_lt _ _) (by decide) fun k hk => ?_
  rw [wN_byte m 0 k hk, wF, Nat.zero_sub, show byteOf 0 k = 0 by simp [byteOf]]
  exact Nat.div_eq_of_lt (byteOf_lt _ _)
theorem wN_all (m : Nat) (hm : m < 2 ^ 128) : wN m 128 = m := by
  refine byte_ext (wN_lt _ _) hm fun k hk => ?_
  rw [wN_byte m 128 k hk, wF, show 8 - (128 - 8 * (15 - k)) = 0 by omega, Nat.pow_zero, Nat.div_one]
theorem wF_part (m i : Nat) (hi : i < 128) : wF m i (15 - i / 8) < 128 := by
  rw [wF, show 8 - (i - 8 * (15 - (15 - i / 8))) = 7 - i % 8 + 1 by omega, Nat.pow_succ]
  have := byteOf_lt m (15 - i / 8)
  have h1 : 1 ≤ 2 ^ (7 - i % 8) := Nat.pow_pos (by decide)
  exact Nat.div_lt_of_lt_mul (by omega)
theorem wF_next (m i : Nat) (hi : i < 128) : wF m i (15 - i / 8) * 2 + bitA m i = wF m (i + 1) (15 - i / 8) := by
  rw [wF, wF, show 8 - (i - 8 * (15 - (15 - i / 8))) = 7 - i % 8 + 1 by omega, show 8 - (i + 1 - 8 * (15 - (15 - i / 8))) = 7 - i % 8 by omega, Nat.pow_succ, ← Nat.div_div_eq_div_mul, ← byte_bit m i hi]
  omega
theorem wN_next (m i : Nat) (hi : i < 128) : setB (wN m i) (i / 8) (byteOf (wN m i) (15 - i / 8) * 2 + bitA m i) = wN m (i + 1) := by
  have hb : byteOf (wN m i) (15 - i / 8) * 2 + bitA m i = wF m (i + 1) (15 - i / 8) := by rw [wN_byte m i _ (by omega), wF_next m i hi]
  refine byte_ext (setB_lt _ _ _ (by rw [hb]; exact wF_lt _ _ _)) (wN_lt _ _) fun k hk => ?_
  rw [byteOf_setB _ _ _ _ (by rw [hb]; exact wF_lt _ _ _) hk, wN_byte m (i + 1) k hk]
  by_cases hki : k = 15 - i / 8
  · rw [if_pos hki, hb, hki]
  · rw [if_neg hki, wN_byte m i k hk, wF, wF]
    by_cases hlt : 15 - k < i / 8
    · rw [show 8 - (i - 8 * (15 - k)) = 0 by omega, show 8 - (i + 1 - 8 * (15 - k)) = 0 by omega]
    · rw [show 8 - (i - 8 * (15 - k)) = 8 by omega, show 8 - (i + 1 - 8 * (15 - k)) = 8 by omega]
theorem bit_topN (n b i : Nat) (hb : b ≤ 128) (hi : i < 128) : bitA (topN n b) i = if i < b then bitA n i else 0 := by
  rw [topN, bitA, bitA]
  split
  · rename_i h
    rw [show 127 - i = 128 - b + (b - 1 - i) by omega, Nat.pow_add, ← Nat.div_div_eq_div_mul, ← Nat.div_div_eq_div_mul, Nat.mul_div_cancel _ (Nat.pow_pos (by decide))]
  · rename_i h
    have : 2 ^ (128 - b) = 2 ^ (127 - i) * (2 * 2 ^ (i - b)) := by
      rw [← Nat.pow_succ', ← Nat.pow_add]
      congr 1
      omega
    rw [this, ← Nat.mul_assoc, Nat.mul_comm (n / _) (2 ^ (127 - i)), Nat.mul_assoc, Nat.mul_div_cancel_left _ (Nat.pow_pos (by decide)), ← Nat.mul_assoc, Nat.mul_comm (n / _) 2, Nat.mul_assoc, Nat.mul_mod_right]
def wlS (v : Bool) (n : Nat) (b : Nat) (m i : Nat) : St := ⟨[(1, .p 1 0), (2, .p 2 0), (4, .p 4 0), (5, .v (.int .i64 (i : Nat)))], [(1, .mk (pfc v n (b : Nat)) 31), (2, .mk (pfc false 0 0) 31), (4, .mk (pfc v (wN m i) (b : Nat)) 31)]⟩
theorem rwhole_no (v : Bool) (n : Nat) (b : Int) (hv : isPfx v n b = false) (w : World) : Calls Try.prog 22 #[.agg (pfc v n b)] w fun e w' => e = .returned (.agg (pfc false 0 0)) ∧ Below w.heap.size w w' := by
  go_enter Try.func22, Try.ntmps22
  have h := Rep.start (N := 48) [.agg (pfc v n b)] [undef, undef, undef, undef, undef, undef, undef, undef, undef, undef, undef, undef, undef, undef, undef, undef, undef, undef, undef, undef, undef, undef, undef, undef, undef, undef, undef, undef, undef, undef, undef, undef, undef, undef, undef, undef, undef, undef, undef, undef, undef, undef, undef, undef, undef, undef, undef] w rfl
  apply seq_dag hmix h
  case hw =>
    apply Walk.cons
    · exact o_box31 1 rfl rfl rfl
    apply Walk.cons
    · exact o_alloc31 2 rfl rfl
    exact Walk.nil _
  case hck => kernel_rfl
  case hQ =>
    intro ρ A w1 h
    apply seq_dag hmix h
    case hw =>
      apply Walk.cons
      · first | exact o_load31 rfl rfl rfl rfl | exact o_load31op rfl rfl rfl rfl
      apply Walk.cons
      · exact ok_call_val rfl rfl fn21 [.v _] rfl (rd := []) (fun _ w _ _ => hv ▸ right_any v n b w)
      apply Walk.cons
      · exact ok_assign rfl rfl rfl
      exact Walk.nil _
    case hck => kernel_rfl
    case hQ =>
      intro ρ A w1 h
      refine wp_seq ?_
      apply seq_dag hmix h
      case hw =>
        apply Walk.cons
        · exact ok_move rfl rfl rfl
        apply Walk.cons
        · exact ok_not rfl rfl rfl rfl
        exact Walk.nil _
      case hck => kernel_rfl
      case hQ =>
        intro ρ A w1 h
        refine if_true' h rfl ?_
        apply seq_dag hmix h
        case hw =>
          apply Walk.cons
          · exact o_built rfl rfl (by kernel_rfl) (v := .agg (pfc false 0 0)) (fun w => by kernel_rfl)
          apply Walk.cons
          · exact o_store31 rfl rfl rfl rfl rfl
          exact Walk.nil _
        case hck => kernel_rfl
        case hQ =>
          intro ρ A w1 h
          refine wp_ret ?_
          repeat (first | refine Exit.thenRet ?_ | refine Exit.blockRet ?_)
          refine h.result Try.results22 rfl rfl agg31 sz31 rfl ?_
          exact ⟨rfl, h.below⟩
set_option maxHeartbeats 1000000 in
theorem rwhole_yes (v : Bool) (n : Nat) (b : Nat) (hn : n < 2 ^ 128) (hv : isPfx v n (b : Nat) = true) (w : World) : Calls Try.prog 22 #[.agg (pfc v n (b : Nat))] w fun e w' => e = .returned (.agg (pfc v (topN n b) (b : Nat))) ∧ Below w.heap.size w w' := by
  have hb := pfx128 hv
  obtain ⟨m, hm⟩ : ∃ m, m = topN n b := ⟨_, rfl⟩
  go_enter Try.func22, Try.ntmps22
  have h := Rep.start (N := 48) [.agg (pfc v n (b : Nat))] [undef, undef, undef, undef, undef, undef, undef, undef, undef, undef, undef, undef, undef, undef, undef, undef, undef, undef, undef, undef, undef, undef, undef, undef, undef, undef, undef, undef, undef, undef, undef, undef, undef, undef, undef, undef, undef, undef, undef, undef, undef, undef, undef, undef, undef, undef, undef] w rfl
  apply seq_dag hmix h
  case hw =>
    apply Walk.cons
    · exact o_box31 1 rfl rfl rfl
    apply Walk.cons
    · exact o_alloc31 2 rfl rfl
    exact Walk.nil _
  case hck => kernel_rfl
  case hQ =>
    intro ρ A w1 h
    apply seq_dag hmix h
    case hw =>
      apply Walk.cons
      · first | exact o_load31 rfl rfl rfl rfl | exact o_load31op rfl rfl rfl rfl
      apply Walk.cons
      · exact ok_call_val rfl rfl fn21 [.v _] rfl (rd := []) (fun _ w _ _ => hv ▸ right_any v n (b : Nat) w)
      apply Walk.cons
      · exact ok_assign rfl rfl rfl
      exact Walk.nil _
    case hck => kernel_rfl
    case hQ =>
      intro ρ A w1 h
      refine wp_seq ?_
      apply seq_dag hmix h
      case hw =>
        apply Walk.cons
        · exact ok_move rfl rfl rfl
        apply Walk.cons
        · exact ok_not rfl rfl rfl rfl
        exact Walk.nil _
      case hck => kernel_rfl
      case hQ =>
        intro ρ A w1 h
        refine if_false' h rfl (wp_skip (Exit.then_normal ?_))
        apply seq_dag hmix h
        case hw =>
          apply Walk.cons
          · first | exact ok_fld rfl rfl rfl fo31_1 rfl | exact ok_fld_v rfl rfl rfl fo31_1 rfl
          apply Walk.cons
          · exact ok_load_cell rfl rfl rfl rfl one3 rfl
          apply Walk.cons
          · exact o_built rfl rfl (by kernel_rfl) (v := .agg (pfc false 0 (b : Nat))) (fun w => by kernel_rfl)
          apply Walk.cons
          · exact o_alloc31 4 rfl rfl
          apply Walk.cons
          · exact o_store31 rfl rfl rfl rfl rfl
          exact Walk.nil _
        case hck => kernel_rfl
        case hQ =>
          intro ρ A w1 h
          apply seq_dag hmix h
          case hw =>
            apply Walk.cons
            · first | exact ok_fld rfl rfl rfl fo31_0 rfl | exact ok_fld_v rfl rfl rfl fo31_0 rfl
            apply Walk.cons
            · first | exact ok_fld rfl rfl rfl fo24_0 rfl | exact ok_fld_v rfl rfl rfl fo24_0 rfl
            apply Walk.cons
            · exact ok_load_cell rfl rfl rfl rfl one4 rfl
            apply Walk.cons
            · first | exact ok_fld rfl rfl rfl fo31_0 rfl | exact ok_fld_v rfl rfl rfl fo31_0 rfl
            apply Walk.cons
            · first | exact ok_fld rfl rfl rfl fo24_0 rfl | exact ok_fld_v rfl rfl rfl fo24_0 rfl
            apply Walk.cons
            · exact ok_store_cell (cs := pfc v 0 (b : Nat)) rfl rfl rfl rfl rfl sz4 rfl (by rw [size_pfc]; decide) rfl
            exact Walk.nil _
          case hck => kernel_rfl
          case hQ =>
            intro ρ A w1 h
            refine wp_seq ?_
            apply seq_dag hmix h
            case hw =>
              apply Walk.cons
              · exact ok_assign rfl rfl rfl
              exact Walk.nil _
            case hck => kernel_rfl
            case hQ =>
              intro ρ A w1 h
              have h := h.plain (wlS v n b m 0) ⟨rfl, rfl, rfl, rfl, trivial⟩ ⟨rfl, rfl, by rw [wN_zero]; rfl, trivial⟩ rfl
              refine wp_block ?_
              refine rep_loop_by (fun i => 128 - i) (fun i => wlS v n b m i) (fun i => i ≤ 128) 0 (Nat.zero_le _) h ?_
              clear h
              rintro i ρ A w2 hi128 h
              refine wp_seq ?_
              by_cases hi : i < 128
              · have hbm := bit_topN n b i hb hi
                rw [← hm] at hbm
                have hpart := wF_part m i hi
                have hby : byteOf (wN m i) (15 - i / 8) * 2 < 256 := by rw [wN_byte m i _ (by omega)]; omega
                have hby2 : byteOf (wN m i) (15 - i / 8) * 2 + bitA m i < 256 := by rw [wN_byte m i _ (by omega), wF_next m i hi]; exact wF_lt _ _ _
                have hnx := wN_next m i hi
                apply seq_dag hmix h
                case hw =>
                  apply Walk.cons
                  · exact ok_move rfl rfl rfl
                  apply Walk.cons
                  · exact o_bin rfl rfl rfl rfl (r_lss (b := 128) (decide_eq_true hi))
                  exact Walk.nil _
                case hck => kernel_rfl
                case hQ =>
                  intro ρ A w1 h
                  refine if_true' h rfl (wp_skip ?_)
                  refine Exit.then_normal ?_
                  refine wp_seq (wp_block ?_)
                  apply seq_dag hmix h
                  case hw =>
                    apply Walk.cons
                    · exact ok_assign rfl rfl rfl
                    exact Walk.nil _
                  case hck => kernel_rfl
                  case hQ =>
                    intro ρ A w1 h
                    obtain ⟨K1, hK1⟩ : ∃ K1 : Act → World → Prop, K1 = fun a w' => ∃ ρ, Rep 48 ⟨[(1, .p 1 0), (2, .p 2 0), (4, .p 4 0), (5, .v (.int .i64 (i : Nat))), (6, .v (.int .i64 (bitA m i : Nat)))], [(1, .mk (pfc v n (b : Nat)) 31), (2, .mk (pfc false 0 0) 31), (4, .mk (pfc v (wN m i) (b : Nat)) 31)]⟩ ρ { W := w } a w' := ⟨_, rfl⟩
                    refine wp_seq ?_
                    refine wp_join K1 ?_ ?_
                    · by_cases hib : i < b
                      · rw [if_pos hib] at hbm
                        apply seq_dag hmix h
                        case hw =>
                          apply Walk.cons
                          · exact ok_move rfl rfl rfl
                          apply Walk.cons
                          · first | exact ok_fld rfl rfl rfl fo31_1 rfl | exact ok_fld_v rfl rfl rfl fo31_1 rfl
                          apply Walk.cons
                          · exact ok_load_cell rfl rfl rfl rfl one3 rfl
                          apply Walk.cons
                          · exact o_bin rfl rfl rfl rfl (r_lss (decide_eq_true hib))
                          exact Walk.nil _
                        case hck => kernel_rfl
                        case hQ =>
                          intro ρ A w1 h
                          refine if_true' h rfl ?_
                          apply region_dag hmix h
                          case hw =>
                            apply Walk.cons
                            · first | exact ok_fld rfl rfl rfl fo31_0 rfl | exact ok_fld_v rfl rfl rfl fo31_0 rfl
                            apply Walk.cons
                            · first | exact o_load24 rfl rfl rfl rfl | exact o_load24p rfl rfl rfl rfl
                            apply Walk.cons
                            · exact ok_move rfl rfl rfl
                            apply Walk.cons
                            · exact ok_call_val rfl rfl fn30 [.v _, .v _] rfl (rd := []) (fun _ w _ _ => rbit_any v n i hi w)
                            apply Walk.cons
                            · exact ok_assign rfl rfl rfl
                            exact Walk.nil _
                          case hck => kernel_rfl
                          case hQ =>
                            intro ρ A w1 h
                            refine Exit.then_normal ?_
                            rw [hK1]
                            exact ⟨ρ, h.plain _ ⟨rfl, rfl, rfl, rfl, by rw [hbm]; rfl, trivial⟩ ⟨rfl, rfl, rfl, trivial⟩ rfl⟩
                      · rw [if_neg hib] at hbm
                        apply seq_dag hmix h
                        case hw =>
                          apply Walk.cons
                          · exact ok_move rfl rfl rfl
                          apply Walk.cons
                          · first | exact ok_fld rfl rfl rfl fo31_1 rfl | exact ok_fld_v rfl rfl rfl fo31_1 rfl
                          apply Walk.cons
                          · exact ok_load_cell rfl rfl rfl rfl one3 rfl
                          apply Walk.cons
                          · exact o_bin rfl rfl rfl rfl (r_lss (decide_eq_false hib))
                          exact Walk.nil _
                        case hck => kernel_rfl
                        case hQ =>
                          intro ρ A w1 h
                          refine if_false' h rfl (wp_skip (Exit.then_normal ?_))
                          rw [hK1]
                          exact ⟨ρ, h.plain _ ⟨rfl, rfl, rfl, rfl, by rw [hbm]; rfl, trivial⟩ ⟨rfl, rfl, rfl, trivial⟩ rfl⟩
                    · intro A9 w9 hK
                      rw [hK1] at hK
                      obtain ⟨ρ, h⟩ := hK
                      apply region_dag hmix h
                      case hw =>
                        apply Walk.cons
                        · exact ok_move rfl rfl rfl
                        apply Walk.cons
                        · exact o_bin rfl rfl rfl rfl (r_quoi (b := 8) (by decide) (by omega))
                        apply Walk.cons
                        · exact ok_move rfl rfl rfl
                        apply Walk.cons
                        · exact o_bin rfl rfl rfl rfl (r_quoi (b := 8) (by decide) (by omega))
                        apply Walk.cons
                        · first | exact ok_fld rfl rfl rfl fo31_0 rfl | exact ok_fld_v rfl rfl rfl fo31_0 rfl
                        apply Walk.cons
                        · first | exact ok_fld rfl rfl rfl fo24_1 rfl | exact ok_fld_v rfl rfl rfl fo24_1 rfl
                        apply Walk.cons
                        · exact o_at22 rfl rfl rfl rfl rfl (by omega)
                        apply Walk.cons
                        · exact o_load5p rfl rfl rfl rfl (by omega)
                        apply Walk.cons
                        · exact o_bin rfl rfl rfl rfl (r_mul8 (b := 2) hby)
                        apply Walk.cons
                        · exact ok_move rfl rfl rfl
                        apply Walk.cons
                        · exact o_conv rfl rfl rfl (by kernel_rfl) Try.underlying5 (c := ((bitA m i : Nat) : Int)) (by rw [IntKind.wrap_u8]; have := bitA_lt m i; omega)
                        apply Walk.cons
                        · exact o_bin rfl rfl rfl rfl (r_add8 hby2)
                        apply Walk.cons
                        · first | exact ok_fld rfl rfl rfl fo31_0 rfl | exact ok_fld_v rfl rfl rfl fo31_0 rfl
                        apply Walk.cons
                        · first | exact ok_fld rfl rfl rfl fo24_1 rfl | exact ok_fld_v rfl rfl rfl fo24_1 rfl
                        apply Walk.cons
                        · exact o_at22 rfl rfl rfl rfl rfl (by omega)
                        apply Walk.cons
                        · exact o_store5p rfl rfl rfl rfl rfl (by omega) hby2
                        exact Walk.nil _
                      case hck => kernel_rfl
                      case hQ =>
                        intro ρ A w1 h
                        repeat (first | refine Exit.block_normal ?_ | refine Exit.then_normal ?_)
                        rw [hnx] at h
                        apply region_dag hmix h
                        case hw =>
                          apply Walk.cons
                          · exact ok_move rfl rfl rfl
                          apply Walk.cons
                          · exact o_bin rfl rfl rfl rfl (r_addi (b := 1) (by omega))
                          apply Walk.cons
                          · exact ok_assign rfl rfl rfl
                          exact Walk.nil _
                        case hck => kernel_rfl
                        case hQ =>
                          intro ρ A w1 h
                          exact ⟨i + 1, ρ, by omega, by omega, h.plain (wlS v n b m (i + 1)) ⟨rfl, rfl, rfl, rfl, trivial⟩ ⟨rfl, rfl, rfl, trivial⟩ rfl⟩
              · obtain rfl : i = 128 := by omega
                apply seq_dag hmix h
                case hw =>
                  apply Walk.cons
                  · exact ok_move rfl rfl rfl
                  apply Walk.cons
                  · exact o_bin rfl rfl rfl rfl (r_lss (b := 128) (decide_eq_false hi))
                  exact Walk.nil _
                case hck => kernel_rfl
                case hQ =>
                  intro ρ A w1 h
                  refine if_false' h rfl (wp_exit ?_)
                  repeat (first | refine Exit.thenExit ?_ | refine Exit.blockExitNe (by decide) ?_)
                  refine Exit.blockExit ?_
                  refine Exit.then_normal ?_
                  apply seq_dag hmix h
                  case hw =>
                    apply Walk.cons
                    · first | exact o_load31 rfl rfl rfl rfl | exact o_load31op rfl rfl rfl rfl
                    apply Walk.cons
                    · exact o_store31 rfl rfl rfl rfl rfl
                    exact Walk.nil _
                  case hck => kernel_rfl
                  case hQ =>
                    intro ρ A w1 h
                    refine wp_ret ?_
                    repeat (first | refine Exit.thenRet ?_ | refine Exit.blockRet ?_)
                    refine h.result Try.results22 rfl rfl agg31 sz31 rfl ?_
                    exact ⟨by rw [wN_all m (by rw [hm]; exact Nat.lt_of_le_of_lt (topN_le n b) hn), hm], h.below⟩
end Go.Proofs.Ytnppgaohfegloaa
