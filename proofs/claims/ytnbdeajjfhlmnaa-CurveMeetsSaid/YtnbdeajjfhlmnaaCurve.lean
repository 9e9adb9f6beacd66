/-
  Package curve: Clamp, Times, Public, Shared.
-/
import Derived.Test.YtnbdeajjfhlmnaaCurveN
namespace Go.Proofs.Ytnbdeajjfhlmnaa
open Go.RowKit

theorem clamp_any (n : Nat) (_ : n < 2 ^ 256) (w : World) : Calls Try.prog 35 #[bv n] w fun e w' => e = .returned (bv (clampP n)) ∧ Below w.heap.size w w' := by
  have hb0 := byteOf_lt n 0
  have hb31 := byteOf_lt n 31
  have e31 := byte31_0 n (byteOf n 0 / 8 * 8) (clamp_b0 n)
  go_enter Try.func35, Try.ntmps35
  have h := Rep.start (N := 13) [bv n] [undef, undef, undef, undef, undef, undef, undef, undef, undef, undef, undef, undef] w rfl
  apply seq_dag hmix h
  case hw =>
    apply Walk.cons
    · exact o_box24 1 rfl rfl rfl
    apply Walk.cons
    · exact o_alloc24 2 rfl rfl
    exact Walk.nil _
  case hck => kernel_rfl
  case hQ =>
    intro ρ A w1 h
    apply seq_dag hmix h
    case hw =>
      apply Walk.cons
      · exact o_at24 rfl rfl rfl rfl (by decide)
      apply Walk.cons
      · exact o_load5 rfl rfl rfl rfl (k := 0) (by decide)
      apply Walk.cons
      · exact o_bin rfl rfl rfl rfl (r_and (and248 hb0))
      apply Walk.cons
      · exact o_at24 rfl rfl rfl rfl (by decide)
      apply Walk.cons
      · exact o_store5 rfl rfl rfl rfl rfl (k := 0) (by decide) (clamp_b0 n)
      exact Walk.nil _
    case hck => kernel_rfl
    case hQ =>
      intro ρ A w1 h
      apply seq_dag hmix h
      case hw =>
        apply Walk.cons
        · exact o_at24 rfl rfl rfl rfl (by decide)
        apply Walk.cons
        · exact o_load5 rfl rfl rfl rfl (k := 31) (by decide)
        apply Walk.cons
        · exact o_bin rfl rfl rfl rfl (r_and (c := ((byteOf n 31 % 128 : Nat) : Int)) (by rw [e31]; exact and127 hb31))
        apply Walk.cons
        · exact o_bin rfl rfl rfl rfl (r_or (or64 hb31))
        apply Walk.cons
        · exact o_at24 rfl rfl rfl rfl (by decide)
        apply Walk.cons
        · exact o_store5 rfl rfl rfl rfl rfl (k := 31) (by decide) (clamp_b31 n)
        exact Walk.nil _
      case hck => kernel_rfl
      case hQ =>
        intro ρ A w1 h
        apply seq_dag hmix h
        case hw =>
          apply Walk.cons
          · exact o_load24 rfl rfl rfl rfl
          apply Walk.cons
          · exact o_store24 rfl rfl rfl rfl rfl
          exact Walk.nil _
        case hck => kernel_rfl
        case hQ =>
          intro ρ A w1 h
          refine wp_ret ?_
          exact h.result24 Try.results35 rfl rfl ⟨rfl, h.below⟩
theorem o_clamp {F : Fr} {ops : Array Oper} {S : St} {o : Oper} (hw : want ops S o = some true) {args : Array Operand} {ts : Array TypeId} (ho : o.op = .call { callee := .value (.func 35), args := args, argTypes := ts }) {a : Nat}
    (hx : args.toList.mapM S.av = some [.v (bv a)]) (ha : a < 2 ^ 256) : OpOK Try.prog F ops o S { val := .v (bv (clampP a)) } :=
  ok_call_val hw ho (by kernel_rfl) _ hx (rd := []) (fun _ w _ _ => clamp_any a ha w)

/-! ### Times -/
def timS33 (k u j : Nat) : St := ⟨[(2, .p 2 0), (3, .p 3 0), (4, .p 4 0), (5, .p 5 0), (6, .p 6 0), (7, .p 7 0), (8, .p 8 0), (9, .p 9 0), (10, .v (.int .u8 (swN k j))), (35, .v (.int .i64 j))],
  [(2, ⟨bvc k, 24⟩), (3, ⟨bvc u, 24⟩), (4, ⟨bvc 0, 24⟩), (5, ⟨bvc 121665, 24⟩), (6, ⟨bvc (cur k u j).x2, 24⟩), (7, ⟨bvc (cur k u j).z2, 24⟩), (8, ⟨bvc (cur k u j).x3, 24⟩), (9, ⟨bvc (cur k u j).z3, 24⟩)]⟩
def timM33 (k u j : Nat) (q : Q4) : St := ⟨[(2, .p 2 0), (3, .p 3 0), (4, .p 4 0), (5, .p 5 0), (6, .p 6 0), (7, .p 7 0), (8, .p 8 0), (9, .p 9 0), (13, .v (.int .u8 (bitN k (254 - j)))), (35, .v (.int .i64 j))],
  [(2, ⟨bvc k, 24⟩), (3, ⟨bvc u, 24⟩), (4, ⟨bvc 0, 24⟩), (5, ⟨bvc 121665, 24⟩), (6, ⟨bvc q.x2, 24⟩), (7, ⟨bvc q.z2, 24⟩), (8, ⟨bvc q.x3, 24⟩), (9, ⟨bvc q.z3, 24⟩)]⟩
attribute [local irreducible] pp subP
set_option maxRecDepth 20000 in
set_option maxHeartbeats 2000000 in
theorem times33_any (k0 u0 : Nat) (hk0 : k0 < 2 ^ 256) (_ : u0 < 2 ^ 256) (w : World) : Calls Try.prog 33 #[bv k0, bv u0] w fun e w' => e = .returned (bv (timesP k0 u0)) ∧ Below w.heap.size w w' := by
  have hb31 := byteOf_lt u0 31
  have hT : timesP k0 u0 = endP (clampP k0) (maskP u0) := rfl
  have hkk := clampP_lt k0
  have huu := maskP_lt u0
  go_enter Try.func33, Try.ntmps33
  have h := Rep.start (N := 127) [bv k0, bv u0] [undef, undef, undef, undef, undef, undef, undef, undef, undef, undef, undef, undef, undef, undef, undef, undef, undef, undef, undef, undef, undef, undef, undef, undef, undef, undef, undef, undef, undef, undef, undef, undef, undef, undef, undef, undef, undef, undef, undef, undef, undef, undef, undef, undef, undef, undef, undef, undef, undef, undef, undef, undef, undef, undef, undef, undef, undef, undef, undef, undef, undef, undef, undef, undef, undef, undef, undef, undef, undef, undef, undef, undef, undef, undef, undef, undef, undef, undef, undef, undef, undef, undef, undef, undef, undef, undef, undef, undef, undef, undef, undef, undef, undef, undef, undef, undef, undef, undef, undef, undef, undef, undef, undef, undef, undef, undef, undef, undef, undef, undef, undef, undef, undef, undef, undef, undef, undef, undef, undef, undef, undef, undef, undef, undef, undef] w rfl
  apply seq_dag hmix h
  case hw =>
    apply Walk.cons
    · exact o_box24 2 rfl rfl rfl
    apply Walk.cons
    · exact o_box24 3 rfl rfl rfl
    apply Walk.cons
    · exact o_alloc24 4 rfl rfl
    exact Walk.nil _
  case hck => kernel_rfl
  case hQ =>
    intro ρ A w1 h
    apply seq_dag hmix h
    case hw =>
      apply Walk.cons
      · exact o_load24 rfl rfl rfl rfl
      apply Walk.cons
      · exact o_clamp rfl rfl rfl (by first | assumption | exact pp_lt _ | exact subP_lt _ _ | exact powP_lt _ _ | decide +kernel)
      apply Walk.cons
      · exact o_store24 rfl rfl rfl rfl rfl
      exact Walk.nil _
    case hck => kernel_rfl
    case hQ =>
      intro ρ A w1 h
      apply seq_dag hmix h
      case hw =>
        apply Walk.cons
        · exact o_at24 rfl rfl rfl rfl (by decide)
        apply Walk.cons
        · exact o_load5 rfl rfl rfl rfl (k := 31) (by decide)
        apply Walk.cons
        · exact o_bin rfl rfl rfl rfl (r_and (and127 hb31))
        apply Walk.cons
        · exact o_at24 rfl rfl rfl rfl (by decide)
        apply Walk.cons
        · exact o_store5 rfl rfl rfl rfl rfl (k := 31) (by decide) (mask_b u0)
        exact Walk.nil _
      case hck => kernel_rfl
      case hQ =>
        intro ρ A w1 h
        have h := h.plain ⟨[(2, .p 2 0), (3, .p 3 0), (4, .p 4 0)], [(2, ⟨bvc (clampP k0), 24⟩), (3, ⟨bvc (maskP u0), 24⟩), (4, ⟨bvc 0, 24⟩)]⟩ ⟨rfl, rfl, rfl, trivial⟩ ⟨rfl, rfl, rfl, trivial⟩ rfl
        generalize clampP k0 = k at h hkk hT
        generalize maskP u0 = u at h huu hT
        apply seq_dag hmix h
        case hw =>
          apply Walk.cons
          · exact o_of (a := 121665) (n := 121665) rfl rfl rfl (by decide) (by decide) (by decide +kernel)
          apply Walk.cons
          · exact o_alloc24 5 rfl rfl
          apply Walk.cons
          · exact o_store24 rfl rfl rfl rfl rfl
          exact Walk.nil _
        case hck => kernel_rfl
        case hQ =>
          intro ρ A w1 h
          apply seq_dag hmix h
          case hw =>
            apply Walk.cons
            · exact o_built rfl rfl (by kernel_rfl) (v := bv 1) (fun w => by kernel_rfl)
            apply Walk.cons
            · exact o_built rfl rfl (by kernel_rfl) (v := bv 0) (fun w => by kernel_rfl)
            apply Walk.cons
            · exact o_load24 rfl rfl rfl rfl
            apply Walk.cons
            · exact o_canon rfl rfl rfl (by first | assumption | exact pp_lt _ | exact subP_lt _ _ | exact powP_lt _ _ | decide +kernel)
            apply Walk.cons
            · exact o_built rfl rfl (by kernel_rfl) (v := bv 1) (fun w => by kernel_rfl)
            apply Walk.cons
            · exact o_alloc24 6 rfl rfl
            apply Walk.cons
            · exact o_alloc24 7 rfl rfl
            apply Walk.cons
            · exact o_alloc24 8 rfl rfl
            apply Walk.cons
            · exact o_alloc24 9 rfl rfl
            apply Walk.cons
            · exact o_store24 rfl rfl rfl rfl rfl
            apply Walk.cons
            · exact o_store24 rfl rfl rfl rfl rfl
            apply Walk.cons
            · exact o_store24 rfl rfl rfl rfl rfl
            apply Walk.cons
            · exact o_store24 rfl rfl rfl rfl rfl
            exact Walk.nil _
          case hck => kernel_rfl
          case hQ =>
            intro ρ A w1 h
            apply seq_dag hmix h
            case hw =>
              apply Walk.cons
              · exact ok_assign rfl rfl rfl
              exact Walk.nil _
            case hck => kernel_rfl
            case hQ =>
              intro ρ A w1 h
              refine wp_seq ?_
              apply seq_dag hmix h
              case hw =>
                apply Walk.cons
                · exact ok_move rfl rfl rfl
                exact Walk.nil _
              case hck => kernel_rfl
              case hQ =>
                intro ρ A w1 h
                have h := h.plain (timS33 k u 0) ⟨rfl, rfl, rfl, rfl, rfl, rfl, rfl, rfl, rfl, rfl, trivial⟩ ⟨rfl, rfl, rfl, rfl, rfl, rfl, rfl, rfl, trivial⟩ rfl
                refine wp_block ?_
                refine rep_loop 255 (timS33 k u) h ?_
                intro j ρ A w2 hj h
                obtain ⟨c0, c1, c2, c3⟩ := cur_ok k u j
                have hsw := swN_lt k j
                by_cases hlt : j < 255
                · have hbb := byteOf_lt k ((254 - j) / 8)
                  have hb2 : byteOf k ((254 - j) / 8) / 2 ^ ((254 - j) % 8) < 256 := Nat.lt_of_le_of_lt (Nat.div_le_self _ _) hbb
                  have hbt := bitN_lt k (254 - j)
                  have hq := (lad_ok k u j).turn (bitN k (254 - j))
                  have hnext := cur_next k u j
                  apply seq_dag hmix h
                  case hw =>
                    apply Walk.cons
                    · exact o_bin rfl rfl rfl rfl (r_lss (a := j) (b := 255) (decide_eq_true hlt))
                    exact Walk.nil _
                  case hck => kernel_rfl
                  case hQ =>
                    intro ρ A w1 h
                    refine go_on h rfl ?_
                    refine wp_seq (wp_block ?_)
                    apply seq_dag hmix h
                    case hw =>
                      apply Walk.cons
                      · exact ok_move rfl rfl rfl
                      apply Walk.cons
                      · exact ok_assign rfl rfl rfl
                      exact Walk.nil _
                    case hck => kernel_rfl
                    case hQ =>
                      intro ρ A w1 h
                      apply seq_dag hmix h
                      case hw =>
                        apply Walk.cons
                        · exact ok_move rfl rfl rfl
                        apply Walk.cons
                        · exact o_bin rfl rfl rfl rfl (r_subi (a := 254) (b := j) (by omega) (by omega))
                        apply Walk.cons
                        · exact ok_assign rfl rfl rfl
                        exact Walk.nil _
                      case hck => kernel_rfl
                      case hQ =>
                        intro ρ A w1 h
                        apply seq_dag hmix h
                        case hw =>
                          apply Walk.cons
                          · exact ok_move rfl rfl rfl
                          apply Walk.cons
                          · exact o_bin rfl rfl rfl rfl (r_quoi (a := 254 - j) (b := 8) (by decide) (by omega))
                          apply Walk.cons
                          · exact o_at24 rfl rfl rfl rfl (j := (254 - j) / 8) (by omega)
                          apply Walk.cons
                          · exact o_load5 rfl rfl rfl rfl (k := (254 - j) / 8) (by omega)
                          apply Walk.cons
                          · exact ok_move rfl rfl rfl
                          apply Walk.cons
                          · exact o_bin rfl rfl rfl rfl (r_remi (a := 254 - j) (b := 8) (by decide))
                          apply Walk.cons
                          · exact o_bin rfl rfl rfl rfl (r_shr8 (byteOf k ((254 - j) / 8)) ((254 - j) % 8) .i64 (by omega))
                          apply Walk.cons
                          · exact o_bin rfl rfl rfl rfl (r_and (u8_and_one (byteOf k ((254 - j) / 8) / 2 ^ ((254 - j) % 8)) hb2))
                          apply Walk.cons
                          · exact ok_assign rfl rfl rfl
                          exact Walk.nil _
                        case hck => kernel_rfl
                        case hQ =>
                          intro ρ A w1 h
                          refine wp_seq (wp_mono (Q := fun e a1 w1 => e = .normal ∧ ∃ ρ1, Rep 127 (timM33 k u j (turn (bitN k (254 - j)) (lad k u j))) ρ1 { W := w } a1 w1) ?_ ?_)
                          · by_cases hne : bitN k (254 - j) = swN k j
                            · have hqe : turn (bitN k (254 - j)) (lad k u j) = cur k u j := by rw [cur, hne]
                              apply seq_dag hmix h
                              case hw =>
                                apply Walk.cons
                                · exact ok_move rfl rfl rfl
                                apply Walk.cons
                                · exact ok_move rfl rfl rfl
                                apply Walk.cons
                                · exact o_bin rfl rfl rfl rfl (r_neqi (a := bitN k (254 - j)) (b := swN k j) (decide_eq_false (fun h => h hne)))
                                exact Walk.nil _
                              case hck => kernel_rfl
                              case hQ =>
                                intro ρ A w1 h
                                refine if_false' h rfl (wp_skip ?_)
                                rw [hqe]
                                exact ⟨rfl, _, h.plain (timM33 k u j (cur k u j)) ⟨rfl, rfl, rfl, rfl, rfl, rfl, rfl, rfl, rfl, rfl, trivial⟩ ⟨rfl, rfl, rfl, rfl, rfl, rfl, rfl, rfl, trivial⟩ rfl⟩
                            · have hqe : turn (bitN k (254 - j)) (lad k u j) = swap4 (cur k u j) := (turn_swap hbt hsw hne _).symm
                              apply seq_dag hmix h
                              case hw =>
                                apply Walk.cons
                                · exact ok_move rfl rfl rfl
                                apply Walk.cons
                                · exact ok_move rfl rfl rfl
                                apply Walk.cons
                                · exact o_bin rfl rfl rfl rfl (r_neqi (a := bitN k (254 - j)) (b := swN k j) (decide_eq_true hne))
                                exact Walk.nil _
                              case hck => kernel_rfl
                              case hQ =>
                                intro ρ A w1 h
                                refine if_true' h rfl ?_
                                apply region_dag hmix h
                                case hw =>
                                  apply Walk.cons
                                  · exact o_load24 rfl rfl rfl rfl
                                  apply Walk.cons
                                  · exact o_load24 rfl rfl rfl rfl
                                  apply Walk.cons
                                  · exact o_load24 rfl rfl rfl rfl
                                  apply Walk.cons
                                  · exact o_load24 rfl rfl rfl rfl
                                  apply Walk.cons
                                  · exact o_store24 rfl rfl rfl rfl rfl
                                  apply Walk.cons
                                  · exact o_store24 rfl rfl rfl rfl rfl
                                  apply Walk.cons
                                  · exact o_store24 rfl rfl rfl rfl rfl
                                  apply Walk.cons
                                  · exact o_store24 rfl rfl rfl rfl rfl
                                  exact Walk.nil _
                                case hck => kernel_rfl
                                case hQ =>
                                  intro ρ A w1 h
                                  rw [hqe]
                                  exact ⟨rfl, _, h.plain (timM33 k u j (swap4 (cur k u j))) ⟨rfl, rfl, rfl, rfl, rfl, rfl, rfl, rfl, rfl, rfl, trivial⟩ ⟨rfl, rfl, rfl, rfl, rfl, rfl, rfl, rfl, trivial⟩ rfl⟩
                          · rintro e a1 w1 ⟨rfl, ρ1, h⟩
                            refine Exit.then_normal ?_
                            generalize turn (bitN k (254 - j)) (lad k u j) = q at h hq hnext
                            obtain ⟨q0, q1, q2, q3⟩ := hq
                            apply seq_dag hmix h
                            case hw =>
                              apply Walk.cons
                              · exact ok_move rfl rfl rfl
                              apply Walk.cons
                              · exact ok_assign rfl rfl rfl
                              exact Walk.nil _
                            case hck => kernel_rfl
                            case hQ =>
                              intro ρ A w1 h
                              apply seq_dag hmix h
                              case hw =>
                                apply Walk.cons
                                · exact o_load24 rfl rfl rfl rfl
                                apply Walk.cons
                                · exact o_load24 rfl rfl rfl rfl
                                apply Walk.cons
                                · exact o_lit2 58 rfl rfl rfl rfl rfl
                                apply Walk.cons
                                · exact o_add2 rfl rfl rfl rfl (by first | assumption | exact pp_lt _ | exact subP_lt _ _ | exact powP_lt _ _ | decide +kernel) (by first | assumption | exact pp_lt _ | exact subP_lt _ _ | exact powP_lt _ _ | decide +kernel)
                                apply Walk.cons
                                · exact o_load24 rfl rfl rfl rfl
                                apply Walk.cons
                                · exact o_load24 rfl rfl rfl rfl
                                apply Walk.cons
                                · exact o_sub rfl rfl rfl (by first | assumption | exact pp_lt _ | exact subP_lt _ _ | exact powP_lt _ _ | decide +kernel) (by first | assumption | exact pp_lt _ | exact subP_lt _ _ | exact powP_lt _ _ | decide +kernel)
                                apply Walk.cons
                                · exact o_alloc24 14 rfl rfl
                                apply Walk.cons
                                · exact o_alloc24 15 rfl rfl
                                apply Walk.cons
                                · exact o_store24 rfl rfl rfl rfl rfl
                                apply Walk.cons
                                · exact o_store24 rfl rfl rfl rfl rfl
                                exact Walk.nil _
                              case hck => kernel_rfl
                              case hQ =>
                                intro ρ A w1 h
                                apply seq_dag hmix h
                                case hw =>
                                  apply Walk.cons
                                  · exact o_load24 rfl rfl rfl rfl
                                  apply Walk.cons
                                  · exact o_load24 rfl rfl rfl rfl
                                  apply Walk.cons
                                  · exact o_sub rfl rfl rfl (by first | assumption | exact pp_lt _ | exact subP_lt _ _ | exact powP_lt _ _ | decide +kernel) (by first | assumption | exact pp_lt _ | exact subP_lt _ _ | exact powP_lt _ _ | decide +kernel)
                                  apply Walk.cons
                                  · exact o_load24 rfl rfl rfl rfl
                                  apply Walk.cons
                                  · exact o_lit2 67 rfl rfl rfl rfl rfl
                                  apply Walk.cons
                                  · exact o_mul2 rfl rfl rfl rfl (by first | assumption | exact pp_lt _ | exact subP_lt _ _ | exact powP_lt _ _ | decide +kernel) (by first | assumption | exact pp_lt _ | exact subP_lt _ _ | exact powP_lt _ _ | decide +kernel)
                                  apply Walk.cons
                                  · exact o_load24 rfl rfl rfl rfl
                                  apply Walk.cons
                                  · exact o_load24 rfl rfl rfl rfl
                                  apply Walk.cons
                                  · exact o_lit2 71 rfl rfl rfl rfl rfl
                                  apply Walk.cons
                                  · exact o_add2 rfl rfl rfl rfl (by first | assumption | exact pp_lt _ | exact subP_lt _ _ | exact powP_lt _ _ | decide +kernel) (by first | assumption | exact pp_lt _ | exact subP_lt _ _ | exact powP_lt _ _ | decide +kernel)
                                  apply Walk.cons
                                  · exact o_load24 rfl rfl rfl rfl
                                  apply Walk.cons
                                  · exact o_lit2 74 rfl rfl rfl rfl rfl
                                  apply Walk.cons
                                  · exact o_mul2 rfl rfl rfl rfl (by first | assumption | exact pp_lt _ | exact subP_lt _ _ | exact powP_lt _ _ | decide +kernel) (by first | assumption | exact pp_lt _ | exact subP_lt _ _ | exact powP_lt _ _ | decide +kernel)
                                  apply Walk.cons
                                  · exact o_alloc24 16 rfl rfl
                                  apply Walk.cons
                                  · exact o_alloc24 17 rfl rfl
                                  apply Walk.cons
                                  · exact o_store24 rfl rfl rfl rfl rfl
                                  apply Walk.cons
                                  · exact o_store24 rfl rfl rfl rfl rfl
                                  exact Walk.nil _
                                case hck => kernel_rfl
                                case hQ =>
                                  intro ρ A w1 h
                                  apply seq_dag hmix h
                                  case hw =>
                                    apply Walk.cons
                                    · exact o_load24 rfl rfl rfl rfl
                                    apply Walk.cons
                                    · exact o_load24 rfl rfl rfl rfl
                                    apply Walk.cons
                                    · exact o_lit2 78 rfl rfl rfl rfl rfl
                                    apply Walk.cons
                                    · exact o_mul2 rfl rfl rfl rfl (by first | assumption | exact pp_lt _ | exact subP_lt _ _ | exact powP_lt _ _ | decide +kernel) (by first | assumption | exact pp_lt _ | exact subP_lt _ _ | exact powP_lt _ _ | decide +kernel)
                                    apply Walk.cons
                                    · exact o_load24 rfl rfl rfl rfl
                                    apply Walk.cons
                                    · exact o_load24 rfl rfl rfl rfl
                                    apply Walk.cons
                                    · exact o_lit2 82 rfl rfl rfl rfl rfl
                                    apply Walk.cons
                                    · exact o_mul2 rfl rfl rfl rfl (by first | assumption | exact pp_lt _ | exact subP_lt _ _ | exact powP_lt _ _ | decide +kernel) (by first | assumption | exact pp_lt _ | exact subP_lt _ _ | exact powP_lt _ _ | decide +kernel)
                                    apply Walk.cons
                                    · exact o_alloc24 18 rfl rfl
                                    apply Walk.cons
                                    · exact o_alloc24 19 rfl rfl
                                    apply Walk.cons
                                    · exact o_store24 rfl rfl rfl rfl rfl
                                    apply Walk.cons
                                    · exact o_store24 rfl rfl rfl rfl rfl
                                    exact Walk.nil _
                                  case hck => kernel_rfl
                                  case hQ =>
                                    intro ρ A w1 h
                                    apply seq_dag hmix h
                                    case hw =>
                                      apply Walk.cons
                                      · exact o_load24 rfl rfl rfl rfl
                                      apply Walk.cons
                                      · exact o_load24 rfl rfl rfl rfl
                                      apply Walk.cons
                                      · exact o_sub rfl rfl rfl (by first | assumption | exact pp_lt _ | exact subP_lt _ _ | exact powP_lt _ _ | decide +kernel) (by first | assumption | exact pp_lt _ | exact subP_lt _ _ | exact powP_lt _ _ | decide +kernel)
                                      apply Walk.cons
                                      · exact o_alloc24 20 rfl rfl
                                      apply Walk.cons
                                      · exact o_store24 rfl rfl rfl rfl rfl
                                      exact Walk.nil _
                                    case hck => kernel_rfl
                                    case hQ =>
                                      intro ρ A w1 h
                                      apply seq_dag hmix h
                                      case hw =>
                                        apply Walk.cons
                                        · exact o_load24 rfl rfl rfl rfl
                                        apply Walk.cons
                                        · exact o_load24 rfl rfl rfl rfl
                                        apply Walk.cons
                                        · exact o_lit2 89 rfl rfl rfl rfl rfl
                                        apply Walk.cons
                                        · exact o_add2 rfl rfl rfl rfl (by first | assumption | exact pp_lt _ | exact subP_lt _ _ | exact powP_lt _ _ | decide +kernel) (by first | assumption | exact pp_lt _ | exact subP_lt _ _ | exact powP_lt _ _ | decide +kernel)
                                        apply Walk.cons
                                        · exact o_load24 rfl rfl rfl rfl
                                        apply Walk.cons
                                        · exact o_load24 rfl rfl rfl rfl
                                        apply Walk.cons
                                        · exact o_sub rfl rfl rfl (by first | assumption | exact pp_lt _ | exact subP_lt _ _ | exact powP_lt _ _ | decide +kernel) (by first | assumption | exact pp_lt _ | exact subP_lt _ _ | exact powP_lt _ _ | decide +kernel)
                                        apply Walk.cons
                                        · exact o_alloc24 21 rfl rfl
                                        apply Walk.cons
                                        · exact o_alloc24 22 rfl rfl
                                        apply Walk.cons
                                        · exact o_store24 rfl rfl rfl rfl rfl
                                        apply Walk.cons
                                        · exact o_store24 rfl rfl rfl rfl rfl
                                        exact Walk.nil _
                                      case hck => kernel_rfl
                                      case hQ =>
                                        intro ρ A w1 h
                                        apply region_dag hmix h
                                        case hw =>
                                          apply Walk.cons
                                          · exact o_load24 rfl rfl rfl rfl
                                          apply Walk.cons
                                          · exact o_load24 rfl rfl rfl rfl
                                          apply Walk.cons
                                          · exact o_lit2 96 rfl rfl rfl rfl rfl
                                          apply Walk.cons
                                          · exact o_mul2 rfl rfl rfl rfl (by first | assumption | exact pp_lt _ | exact subP_lt _ _ | exact powP_lt _ _ | decide +kernel) (by first | assumption | exact pp_lt _ | exact subP_lt _ _ | exact powP_lt _ _ | decide +kernel)
                                          apply Walk.cons
                                          · exact o_load24 rfl rfl rfl rfl
                                          apply Walk.cons
                                          · exact o_load24 rfl rfl rfl rfl
                                          apply Walk.cons
                                          · exact o_load24 rfl rfl rfl rfl
                                          apply Walk.cons
                                          · exact o_load24 rfl rfl rfl rfl
                                          apply Walk.cons
                                          · exact o_lit2 102 rfl rfl rfl rfl rfl
                                          apply Walk.cons
                                          · exact o_mul2 rfl rfl rfl rfl (by first | assumption | exact pp_lt _ | exact subP_lt _ _ | exact powP_lt _ _ | decide +kernel) (by first | assumption | exact pp_lt _ | exact subP_lt _ _ | exact powP_lt _ _ | decide +kernel)
                                          apply Walk.cons
                                          · exact o_lit2 104 rfl rfl rfl rfl rfl
                                          apply Walk.cons
                                          · exact o_add2 rfl rfl rfl rfl (by first | assumption | exact pp_lt _ | exact subP_lt _ _ | exact powP_lt _ _ | decide +kernel) (by first | assumption | exact pp_lt _ | exact subP_lt _ _ | exact powP_lt _ _ | decide +kernel)
                                          apply Walk.cons
                                          · exact o_lit2 106 rfl rfl rfl rfl rfl
                                          apply Walk.cons
                                          · exact o_mul2 rfl rfl rfl rfl (by first | assumption | exact pp_lt _ | exact subP_lt _ _ | exact powP_lt _ _ | decide +kernel) (by first | assumption | exact pp_lt _ | exact subP_lt _ _ | exact powP_lt _ _ | decide +kernel)
                                          apply Walk.cons
                                          · exact o_load24 rfl rfl rfl rfl
                                          apply Walk.cons
                                          · exact o_load24 rfl rfl rfl rfl
                                          apply Walk.cons
                                          · exact o_lit2 110 rfl rfl rfl rfl rfl
                                          apply Walk.cons
                                          · exact o_mul2 rfl rfl rfl rfl (by first | assumption | exact pp_lt _ | exact subP_lt _ _ | exact powP_lt _ _ | decide +kernel) (by first | assumption | exact pp_lt _ | exact subP_lt _ _ | exact powP_lt _ _ | decide +kernel)
                                          apply Walk.cons
                                          · exact o_load24 rfl rfl rfl rfl
                                          apply Walk.cons
                                          · exact o_load24 rfl rfl rfl rfl
                                          apply Walk.cons
                                          · exact o_load24 rfl rfl rfl rfl
                                          apply Walk.cons
                                          · exact o_lit3 115 rfl rfl rfl rfl rfl rfl
                                          apply Walk.cons
                                          · exact o_mul3 rfl rfl rfl rfl (by first | assumption | exact pp_lt _ | exact subP_lt _ _ | exact powP_lt _ _ | decide +kernel) (by first | assumption | exact pp_lt _ | exact subP_lt _ _ | exact powP_lt _ _ | decide +kernel) (by first | assumption | exact pp_lt _ | exact subP_lt _ _ | exact powP_lt _ _ | decide +kernel)
                                          apply Walk.cons
                                          · exact o_store24 rfl rfl rfl rfl rfl
                                          apply Walk.cons
                                          · exact o_store24 rfl rfl rfl rfl rfl
                                          apply Walk.cons
                                          · exact o_store24 rfl rfl rfl rfl rfl
                                          apply Walk.cons
                                          · exact o_store24 rfl rfl rfl rfl rfl
                                          exact Walk.nil _
                                        case hck => kernel_rfl
                                        case hQ =>
                                          intro ρ A w1 h
                                          refine Exit.block_normal (Exit.then_normal ?_)
                                          apply region_dag hmix h
                                          case hw =>
                                            apply Walk.cons
                                            · exact o_bin rfl rfl rfl rfl (r_addi (a := j) (b := 1) (by omega))
                                            apply Walk.cons
                                            · exact ok_move rfl rfl rfl
                                            exact Walk.nil _
                                          case hck => kernel_rfl
                                          case hQ =>
                                            intro ρ A w1 h
                                            exact ⟨_, hlt, h.plain (timS33 k u (j + 1)) ⟨rfl, rfl, rfl, rfl, rfl, rfl, rfl, rfl, rfl, rfl, trivial⟩ ⟨rfl, rfl, rfl, rfl, by rw [hnext]; rfl, by rw [hnext]; rfl, by rw [hnext]; rfl, by rw [hnext]; rfl, trivial⟩ rfl⟩
                · obtain rfl : j = 255 := by omega
                  apply seq_dag hmix h
                  case hw =>
                    apply Walk.cons
                    · exact o_bin rfl rfl rfl rfl (r_lss (a := 255) (b := 255) (decide_eq_false hlt))
                    exact Walk.nil _
                  case hck => kernel_rfl
                  case hQ =>
                    intro ρ A w1 h
                    refine leave h rfl ?_
                    refine Exit.then_normal ?_
                    refine wp_seq (wp_mono (Q := fun e a1 w1 => e = .normal ∧ ∃ ρ1, Rep 127 ⟨[(4, .p 4 0), (6, .p 6 0), (7, .p 7 0)], [(4, ⟨bvc 0, 24⟩), (6, ⟨bvc (lad k u 255).x2, 24⟩), (7, ⟨bvc (lad k u 255).z2, 24⟩)]⟩ ρ1 { W := w } a1 w1) ?_ ?_)
                    · by_cases hsw1 : swN k 255 = 1
                      · obtain ⟨e1, e2⟩ := turn_one (lad k u 255) (swN k 255) hsw1
                        apply seq_dag hmix h
                        case hw =>
                          apply Walk.cons
                          · exact ok_move rfl rfl rfl
                          apply Walk.cons
                          · exact o_bin rfl rfl rfl rfl (r_eqli (a := swN k 255) (b := 1) (decide_eq_true hsw1))
                          exact Walk.nil _
                        case hck => kernel_rfl
                        case hQ =>
                          intro ρ A w1 h
                          refine if_true' h rfl ?_
                          apply region_dag hmix h
                          case hw =>
                            apply Walk.cons
                            · exact o_load24 rfl rfl rfl rfl
                            apply Walk.cons
                            · exact o_load24 rfl rfl rfl rfl
                            apply Walk.cons
                            · exact o_store24 rfl rfl rfl rfl rfl
                            apply Walk.cons
                            · exact o_store24 rfl rfl rfl rfl rfl
                            exact Walk.nil _
                          case hck => kernel_rfl
                          case hQ =>
                            intro ρ A w1 h
                            exact ⟨rfl, _, h.plain ⟨[(4, .p 4 0), (6, .p 6 0), (7, .p 7 0)], [(4, ⟨bvc 0, 24⟩), (6, ⟨bvc (lad k u 255).x2, 24⟩), (7, ⟨bvc (lad k u 255).z2, 24⟩)]⟩ ⟨rfl, rfl, rfl, trivial⟩ ⟨rfl, by rw [← e1]; rfl, by rw [← e2]; rfl, trivial⟩ rfl⟩
                      · have e1 := turn_zero (lad k u 255) (swN k 255) hsw1
                        apply seq_dag hmix h
                        case hw =>
                          apply Walk.cons
                          · exact ok_move rfl rfl rfl
                          apply Walk.cons
                          · exact o_bin rfl rfl rfl rfl (r_eqli (a := swN k 255) (b := 1) (decide_eq_false hsw1))
                          exact Walk.nil _
                        case hck => kernel_rfl
                        case hQ =>
                          intro ρ A w1 h
                          refine if_false' h rfl (wp_skip ?_)
                          have e2 : cur k u 255 = lad k u 255 := e1
                          exact ⟨rfl, _, h.plain ⟨[(4, .p 4 0), (6, .p 6 0), (7, .p 7 0)], [(4, ⟨bvc 0, 24⟩), (6, ⟨bvc (lad k u 255).x2, 24⟩), (7, ⟨bvc (lad k u 255).z2, 24⟩)]⟩ ⟨rfl, rfl, rfl, trivial⟩ ⟨rfl, by rw [← e2]; rfl, by rw [← e2]; rfl, trivial⟩ rfl⟩
                    · rintro e a1 w1 ⟨rfl, ρ1, h⟩
                      refine Exit.then_normal ?_
                      obtain ⟨q0, q1, _, _⟩ := lad_ok k u 255
                      apply seq_dag hmix h
                      case hw =>
                        apply Walk.cons
                        · exact o_load24 rfl rfl rfl rfl
                        apply Walk.cons
                        · exact o_load24 rfl rfl rfl rfl
                        apply Walk.cons
                        · exact o_inv rfl rfl rfl (by first | assumption | exact pp_lt _ | exact subP_lt _ _ | exact powP_lt _ _ | decide +kernel)
                        apply Walk.cons
                        · exact o_lit2 125 rfl rfl rfl rfl rfl
                        apply Walk.cons
                        · exact o_mul2 rfl rfl rfl rfl (by first | assumption | exact pp_lt _ | exact subP_lt _ _ | exact powP_lt _ _ | decide +kernel) (by first | assumption | exact pp_lt _ | exact subP_lt _ _ | exact powP_lt _ _ | decide +kernel)
                        apply Walk.cons
                        · exact o_store24 rfl rfl rfl rfl rfl
                        exact Walk.nil _
                      case hck => kernel_rfl
                      case hQ =>
                        intro ρ A w1 h
                        refine wp_ret ?_
                        exact h.result24 Try.results33 rfl rfl ⟨by rw [hT]; rfl, h.below⟩
theorem o_times33 {F : Fr} {ops : Array Oper} {S : St} {o : Oper} (hw : want ops S o = some true) {args : Array Operand} {ts : Array TypeId} (ho : o.op = .call { callee := .value (.func 33), args := args, argTypes := ts }) {a b : Nat}
    (hx : args.toList.mapM S.av = some [.v (bv a), .v (bv b)]) (ha : a < 2 ^ 256) (hb : b < 2 ^ 256) : OpOK Try.prog F ops o S { val := .v (bv (timesP a b)) } :=
  ok_call_val hw ho (by kernel_rfl) _ hx (rd := []) (fun _ w _ _ => times33_any a b ha hb w)

theorem public39_any (n : Nat) (hn : n < 2 ^ 256) (w : World) : Calls Try.prog 39 #[bv n] w fun e w' => e = .returned (bv (timesP n 9)) ∧ Below w.heap.size w w' := by
  go_enter Try.func39, Try.ntmps39
  have h := Rep.start (N := 6) [bv n] [undef, undef, undef, undef, undef] w rfl
  apply seq_dag hmix h
  case hw =>
    apply Walk.cons
    · exact o_box24 1 rfl rfl rfl
    apply Walk.cons
    · exact o_alloc24 2 rfl rfl
    exact Walk.nil _
  case hck => kernel_rfl
  case hQ =>
    intro ρ A w1 h
    apply seq_dag hmix h
    case hw =>
      apply Walk.cons
      · exact o_load24 rfl rfl rfl rfl
      apply Walk.cons
      · exact o_built rfl rfl (by kernel_rfl) (v := bv 9) (fun w => by kernel_rfl)
      apply Walk.cons
      · exact o_times33 rfl rfl rfl (by first | assumption | exact pp_lt _ | exact subP_lt _ _ | exact powP_lt _ _ | decide +kernel) (by first | assumption | exact pp_lt _ | exact subP_lt _ _ | exact powP_lt _ _ | decide +kernel)
      apply Walk.cons
      · exact o_store24 rfl rfl rfl rfl rfl
      exact Walk.nil _
    case hck => kernel_rfl
    case hQ =>
      intro ρ A w1 h
      refine wp_ret ?_
      exact h.result24 Try.results39 rfl rfl ⟨rfl, h.below⟩
theorem o_public39 {F : Fr} {ops : Array Oper} {S : St} {o : Oper} (hw : want ops S o = some true) {args : Array Operand} {ts : Array TypeId} (ho : o.op = .call { callee := .value (.func 39), args := args, argTypes := ts }) {a : Nat}
    (hx : args.toList.mapM S.av = some [.v (bv a)]) (ha : a < 2 ^ 256) : OpOK Try.prog F ops o S { val := .v (bv (timesP a 9)) } :=
  ok_call_val hw ho (by kernel_rfl) _ hx (rd := []) (fun _ w _ _ => public39_any a ha w)
end Go.Proofs.Ytnbdeajjfhlmnaa
