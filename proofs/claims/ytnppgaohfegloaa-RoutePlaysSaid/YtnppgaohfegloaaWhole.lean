/-
  Walks: the whole prefix; a prefix of version 4 of two bytes.
-/
import Derived.Test.YtnppgaohfegloaaLeaf
namespace Go.Proofs.Ytnppgaohfegloaa
open Go.RowKit

theorem isPfx_nat {v : Bool} {n : Nat} {b : Int} (h : isPfx v n b = true) : ∃ k : Nat, b = k ∧ k ≤ mostA v ∧ validA v n = true := by
  simp only [isPfx, Bool.and_eq_true, decide_eq_true_eq] at h
  exact ⟨b.toNat, by omega, by omega, h.1⟩
theorem mostA_le (v : Bool) : mostA v ≤ 128 := by cases v <;> decide
theorem topN_lt {n b : Nat} (hn : n < 2 ^ 128) : topN n b < 2 ^ 128 := Nat.lt_of_le_of_lt (topN_le n b) hn
def whS (v : Bool) (n b k : Nat) : St := ⟨[(1, .p 1 0), (2, .p 2 0), (3, .v (.int .i64 ((b + k : Nat) : Int)))], [(1, .mk (pfc v (clr n b (b + k)) (b : Nat)) 31), (2, .mk (pfc false 0 0) 31)]⟩
set_option maxRecDepth 20000 in
theorem whole_ok (v : Bool) (n b : Nat) (hn : n < 2 ^ 128) (hp : isPfx v n (b : Nat) = true) (w : World) : Calls Try.prog 14 #[.agg (pfc v n (b : Nat))] w fun e w' => e = .returned (.agg (pfc v (topN n b) (b : Nat))) ∧ Below w.heap.size w w' := by
  have hb128 : b ≤ 128 := by
    obtain ⟨k, h1, h2, _⟩ := isPfx_nat hp
    have := mostA_le v
    omega
  have hpre : ∀ w, Calls Try.prog 13 #[.agg (pfc v n (b : Nat))] w fun e w' => e = .returned (.bool true) ∧ Below w.heap.size w w' := fun w => hp ▸ isPrefix_any v n b w
  clear hp
  go_enter Try.func14, Try.ntmps14
  have h := Rep.start (N := 29) [.agg (pfc v n (b : Nat))] [undef, undef, undef, undef, undef, undef, undef, undef, undef, undef, undef, undef, undef, undef, undef, undef, undef, undef, undef, undef, undef, undef, undef, undef, undef, undef, undef, undef] w rfl
  apply seq_dag hmix h
  case hw =>
    apply Walk.cons
    · exact o_box31 1 rfl rfl rfl
    apply Walk.cons
    · exact o_alloc31 2 rfl rfl
    exact Walk.nil _
  case hck => kernel_rfl
  case hQ =>
    intro ρ A w1 h
    refine wp_seq ?_
    apply seq_dag hmix h
    case hw =>
      apply Walk.cons
      · first | exact o_load31 rfl rfl rfl rfl | exact o_load31op rfl rfl rfl rfl
      apply Walk.cons
      · exact ok_call_val rfl rfl fn13 [.v _] rfl (rd := []) (fun _ w _ _ => hpre w)
      apply Walk.cons
      · exact ok_not rfl rfl rfl rfl
      exact Walk.nil _
    case hck => kernel_rfl
    case hQ =>
      intro ρ A w1 h
      refine if_false' h rfl (wp_skip (Exit.then_normal ?_))
      refine wp_seq ?_
      apply seq_dag hmix h
      case hw =>
        apply Walk.cons
        · first | exact ok_fld rfl rfl rfl fo31_1 rfl | exact ok_fld_v rfl rfl rfl fo31_1 rfl
        apply Walk.cons
        · exact ok_load_cell rfl rfl rfl rfl one3 rfl
        apply Walk.cons
        · exact ok_assign rfl rfl rfl
        exact Walk.nil _
      case hck => kernel_rfl
      case hQ =>
        intro ρ A w1 h
        have h := h.plain (whS v n b 0) ⟨rfl, rfl, rfl, trivial⟩ ⟨by show _ = some (Blk.mk (pfc v (clr n b b) _) _); rw [clr_start]; rfl, rfl, trivial⟩ rfl
        refine wp_block ?_
        refine rep_loop (128 - b) (whS v n b) h ?_
        intro k ρ A w3 hk h
        have hm := Nat.lt_of_le_of_lt (clr_le n (b := b) (i := b + k) (by omega)) hn
        by_cases hlt : k < 128 - b
        · refine wp_seq ?_
          apply seq_dag hmix h
          case hw =>
            apply Walk.cons
            · exact ok_move rfl rfl rfl
            apply Walk.cons
            · exact o_bin rfl rfl rfl rfl (r_lss (a := b + k) (b := 128) (decide_eq_true (by omega)))
            exact Walk.nil _
          case hck => kernel_rfl
          case hQ =>
            intro ρ A w1 h
            refine if_true' h rfl (wp_skip ?_)
            refine Exit.then_normal ?_
            refine wp_seq (wp_block ?_)
            have hst := setB_clear hm (show b + k < 128 by omega)
            have hnx := clr_next n (b := b) (i := b + k) (by omega) (by omega)
            have hcl : byteOf (clr n b (b + k)) (15 - (b + k) / 8) - bitA (clr n b (b + k)) (b + k) * 2 ^ (7 - (b + k) % 8) < 256 := Nat.lt_of_le_of_lt (Nat.sub_le _ _) (byteOf_lt _ _)
            apply region_dag hmix h
            case hw =>
              apply Walk.cons
              · exact ok_move rfl rfl rfl
              apply Walk.cons
              · exact o_bin rfl rfl rfl rfl (r_quoi (a := b + k) (b := 8) (by decide) (by omega))
              apply Walk.cons
              · first | exact ok_fld rfl rfl rfl fo31_0 rfl | exact ok_fld_v rfl rfl rfl fo31_0 rfl
              apply Walk.cons
              · first | exact ok_fld rfl rfl rfl fo24_1 rfl | exact ok_fld_v rfl rfl rfl fo24_1 rfl
              apply Walk.cons
              · exact o_at22 rfl rfl rfl (j := (b + k) / 8) rfl rfl (by omega)
              apply Walk.cons
              · exact o_load5p rfl rfl rfl rfl (j := (b + k) / 8) (by omega)
              apply Walk.cons
              · exact ok_move rfl rfl rfl
              apply Walk.cons
              · exact o_bin rfl rfl rfl rfl (r_remi (a := b + k) (b := 8) (by decide))
              apply Walk.cons
              · exact o_bin rfl rfl rfl rfl (r_subi (a := 7) (b := (b + k) % 8) (by omega) (by decide))
              apply Walk.cons
              · exact o_bin rfl rfl rfl rfl (r_shl8 (7 - (b + k) % 8) .i64 (by omega))
              apply Walk.cons
              · exact o_bin rfl rfl rfl rfl (r_clear (i := b + k) (by omega))
              apply Walk.cons
              · first | exact ok_fld rfl rfl rfl fo31_0 rfl | exact ok_fld_v rfl rfl rfl fo31_0 rfl
              apply Walk.cons
              · first | exact ok_fld rfl rfl rfl fo24_1 rfl | exact ok_fld_v rfl rfl rfl fo24_1 rfl
              apply Walk.cons
              · exact o_at22 rfl rfl rfl (j := (b + k) / 8) rfl rfl (by omega)
              apply Walk.cons
              · exact o_store5p rfl rfl rfl rfl rfl (j := (b + k) / 8) (by omega) hcl
              exact Walk.nil _
            case hck => kernel_rfl
            case hQ =>
              intro ρ A w1 h
              refine Exit.block_normal (Exit.then_normal ?_)
              apply region_dag hmix h
              case hw =>
                apply Walk.cons
                · exact ok_move rfl rfl rfl
                apply Walk.cons
                · exact o_bin rfl rfl rfl rfl (r_addi (a := b + k) (b := 1) (by omega))
                apply Walk.cons
                · exact ok_assign rfl rfl rfl
                exact Walk.nil _
              case hck => kernel_rfl
              case hQ =>
                intro ρ A w1 h
                exact ⟨_, hlt, h.plain (whS v n b (k + 1)) ⟨rfl, rfl, rfl, trivial⟩ ⟨by show _ = some (Blk.mk (pfc v (clr n b (b + k + 1)) _) _); rw [← hnx, ← hst]; rfl, rfl, trivial⟩ rfl⟩
        · obtain rfl : k = 128 - b := by omega
          refine wp_seq ?_
          apply seq_dag hmix h
          case hw =>
            apply Walk.cons
            · exact ok_move rfl rfl rfl
            apply Walk.cons
            · exact o_bin rfl rfl rfl rfl (r_lss (a := b + (128 - b)) (b := 128) (decide_eq_false (by omega)))
            exact Walk.nil _
          case hck => kernel_rfl
          case hQ =>
            intro ρ A w1 h
            refine if_false' h rfl (wp_exit (at_exit' ?_))
            refine Exit.then_normal ?_
            have e : clr n b (b + (128 - b)) = topN n b := by rw [show b + (128 - b) = 128 by omega, clr_end]
            have h := h.plain ⟨[(1, .p 1 0), (2, .p 2 0)], [(1, .mk (pfc v (topN n b) (b : Nat)) 31), (2, .mk (pfc false 0 0) 31)]⟩ ⟨rfl, rfl, trivial⟩ ⟨by rw [← e]; rfl, rfl, trivial⟩ rfl
            apply seq_dag hmix h
            case hw =>
              apply Walk.cons
              · first | exact o_load31 rfl rfl rfl rfl | exact o_load31op rfl rfl rfl rfl
              apply Walk.cons
              · exact o_store31 rfl rfl rfl rfl rfl
              exact Walk.nil _
            case hck => kernel_rfl
            case hQ =>
              intro ρ A w1 h
              refine wp_ret ?_
              repeat (first | refine Exit.thenRet ?_ | refine Exit.blockRet ?_)
              refine h.result Try.results14 rfl rfl agg31 sz31 rfl ?_
              exact ⟨rfl, h.below⟩
theorem whole_no (v : Bool) (n : Nat) (b : Int) (hp : isPfx v n b = false) (w : World) : Calls Try.prog 14 #[.agg (pfc v n b)] w fun e w' => e = .returned (.agg (pfc false 0 0)) ∧ Below w.heap.size w w' := by
  have hpre : ∀ w, Calls Try.prog 13 #[.agg (pfc v n b)] w fun e w' => e = .returned (.bool false) ∧ Below w.heap.size w w' := fun w => hp ▸ isPrefix_any v n b w
  clear hp
  go_enter Try.func14, Try.ntmps14
  have h := Rep.start (N := 29) [.agg (pfc v n b)] [undef, undef, undef, undef, undef, undef, undef, undef, undef, undef, undef, undef, undef, undef, undef, undef, undef, undef, undef, undef, undef, undef, undef, undef, undef, undef, undef, undef] w rfl
  apply seq_dag hmix h
  case hw =>
    apply Walk.cons
    · exact o_box31 1 rfl rfl rfl
    apply Walk.cons
    · exact o_alloc31 2 rfl rfl
    exact Walk.nil _
  case hck => kernel_rfl
  case hQ =>
    intro ρ A w1 h
    refine wp_seq ?_
    apply seq_dag hmix h
    case hw =>
      apply Walk.cons
      · first | exact o_load31 rfl rfl rfl rfl | exact o_load31op rfl rfl rfl rfl
      apply Walk.cons
      · exact ok_call_val rfl rfl fn13 [.v _] rfl (rd := []) (fun _ w _ _ => hpre w)
      apply Walk.cons
      · exact ok_not rfl rfl rfl rfl
      exact Walk.nil _
    case hck => kernel_rfl
    case hQ =>
      intro ρ A w1 h
      refine if_true' h rfl ?_
      apply seq_dag hmix h
      case hw =>
        apply Walk.cons
        · exact o_built rfl rfl (by kernel_rfl) (v := .agg (pfc false 0 0)) (fun w => by kernel_rfl)
        apply Walk.cons
        · exact o_store31 rfl rfl rfl rfl rfl
        exact Walk.nil _
      case hck => kernel_rfl
      case hQ =>
        intro ρ A w1 h
        refine wp_ret ?_
        repeat (first | refine Exit.thenRet ?_ | refine Exit.blockRet ?_)
        refine h.result Try.results14 rfl rfl agg31 sz31 rfl ?_
        exact ⟨rfl, h.below⟩
/-- a prefix of version 4 of two bytes -/
def four4 (a b : Nat) : Nat := setB (setB 0 0 a) 1 b
theorem four_any (a b : Nat) (k : Int) (ha : a < 256) (hb : b < 256) (w : World) : Calls Try.prog 24 #[.int .u8 a, .int .u8 b, .int .i64 k] w fun e w' => e = .returned (.agg (pfc false (four4 a b) k)) ∧ Below w.heap.size w w' := by
  go_enter Try.func24, Try.ntmps24
  have h := Rep.start (N := 19) [.int .u8 a, .int .u8 b, .int .i64 k] [undef, undef, undef, undef, undef, undef, undef, undef, undef, undef, undef, undef, undef, undef, undef, undef] w rfl
  apply seq_dag hmix h
  case hw =>
    apply Walk.cons
    · exact o_alloc31 6 rfl rfl
    exact Walk.nil _
  case hck => kernel_rfl
  case hQ =>
    intro ρ A w1 h
    apply seq_dag hmix h
    case hw =>
      apply Walk.cons
      · exact ok_move rfl rfl rfl
      apply Walk.cons
      · exact o_built rfl rfl (by kernel_rfl) (v := .agg (pfc false 0 k)) (fun w => by kernel_rfl)
      apply Walk.cons
      · exact o_alloc31 7 rfl rfl
      apply Walk.cons
      · exact o_store31 rfl rfl rfl rfl rfl
      exact Walk.nil _
    case hck => kernel_rfl
    case hQ =>
      intro ρ A w1 h
      apply seq_dag hmix h
      case hw =>
        apply Walk.cons
        · exact ok_move rfl rfl rfl
        apply Walk.cons
        · first | exact ok_fld rfl rfl rfl fo31_0 rfl | exact ok_fld_v rfl rfl rfl fo31_0 rfl
        apply Walk.cons
        · first | exact ok_fld rfl rfl rfl fo24_1 rfl | exact ok_fld_v rfl rfl rfl fo24_1 rfl
        apply Walk.cons
        · exact o_at22 rfl rfl rfl (j := 0) rfl rfl (by decide)
        apply Walk.cons
        · exact o_store5p rfl rfl rfl rfl rfl (j := 0) (by decide) ha
        exact Walk.nil _
      case hck => kernel_rfl
      case hQ =>
        intro ρ A w1 h
        apply seq_dag hmix h
        case hw =>
          apply Walk.cons
          · exact ok_move rfl rfl rfl
          apply Walk.cons
          · first | exact ok_fld rfl rfl rfl fo31_0 rfl | exact ok_fld_v rfl rfl rfl fo31_0 rfl
          apply Walk.cons
          · first | exact ok_fld rfl rfl rfl fo24_1 rfl | exact ok_fld_v rfl rfl rfl fo24_1 rfl
          apply Walk.cons
          · exact o_at22 rfl rfl rfl (j := 1) rfl rfl (by decide)
          apply Walk.cons
          · exact o_store5p rfl rfl rfl rfl rfl (j := 1) (by decide) hb
          exact Walk.nil _
        case hck => kernel_rfl
        case hQ =>
          intro ρ A w1 h
          apply seq_dag hmix h
          case hw =>
            apply Walk.cons
            · first | exact o_load31 rfl rfl rfl rfl | exact o_load31op rfl rfl rfl rfl
            apply Walk.cons
            · exact o_store31 rfl rfl rfl rfl rfl
            exact Walk.nil _
          case hck => kernel_rfl
          case hQ =>
            intro ρ A w1 h
            refine wp_ret ?_
            repeat (first | refine Exit.thenRet ?_ | refine Exit.blockRet ?_)
            refine h.result Try.results24 rfl rfl agg31 sz31 rfl ?_
            exact ⟨rfl, h.below⟩
end Go.Proofs.Ytnppgaohfegloaa
