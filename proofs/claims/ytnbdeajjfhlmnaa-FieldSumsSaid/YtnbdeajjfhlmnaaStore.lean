/-
  (limbs).store of package field.
-/
import Derived.Test.YtnbdeajjfhlmnaaStoreN
namespace Go.Proofs.Ytnbdeajjfhlmnaa
open Go.RowKit

theorem fn53 : goFn Try.prog 53 = true := by kernel_rfl
/-- 'put' in a region: it writes one block -/
theorem ok_put {F : Fr} {ops : Array Oper} {S : St} {o : Oper} (hw : want ops S o = some true) {args : Array Operand} {ts : Array TypeId} (ho : o.op = .call { callee := .value (.func 53), args := args, argTypes := ts })
    {i n at_ v : Nat} (ha : args.toList.mapM S.av = some [.p i 0, .v (.int .i64 at_), .v (.int .u64 v)]) (hb : S.blk i = some ⟨bvc n, 24⟩) (hat : at_ ≤ 24) :
    OpOK Try.prog F ops o S { val := .v (.tuple #[]), wr := some (i, ⟨bvc (putTo n at_ v 8), 24⟩), rd := [i] } :=
  ok_call hw ho fn53 _ ha fun ρ w h1 h2 => (put_any (ρ i) n at_ v w (h1 i (by simp) _ hb) hat).mono fun en w' h => by
    obtain ⟨rfl, h⟩ := h
    exact ⟨_, 0, rfl, rfl, h.os, h.tape, h.output, h.size, fun b hb hne => h.keep b hb (hne _ rfl), (fun x hx => by cases hx; exact h.wrote), (fun _ hx => by cases hx)⟩

def storeS1 (c : L5) (k : Nat) : St := ⟨[(1, .p 1 0), (2, .p 2 0), (3, .v (.int .u64 (qTo c k))), (4, .v (.int .i64 ((k + 1 : Nat) : Int)))], [(1, ⟨lvc c, 41⟩), (2, ⟨bvc 0, 24⟩)]⟩
def storeS2 (c : L5) (k : Nat) : St := ⟨[(1, .p 1 0), (2, .p 2 0), (30, .v (.int .i64 k))], [(1, ⟨lvc (dTo c k), 41⟩), (2, ⟨bvc 0, 24⟩)]⟩
theorem and51 {n : Nat} (h : n < 18446744073709551616) : bits .and .u64 (n : Int) 2251799813685247 = ((n % 2251799813685248 : Nat) : Int) := u64_and51 _ h

set_option maxRecDepth 20000 in
set_option maxHeartbeats 1000000 in
theorem store_any (x : L5) (hx : W5 x) (w : World) : Calls Try.prog 43 #[lv x] w fun e w' => e = .returned (bv (lval x % pp)) ∧ Below w.heap.size w w' := by
  go_enter Try.func43, Try.ntmps43
  have h := Rep.start (N := 85) [lv x] [undef, undef, undef, undef, undef, undef, undef, undef, undef, undef, undef, undef, undef, undef, undef, undef, undef, undef, undef, undef, undef, undef, undef, undef, undef, undef, undef, undef, undef, undef, undef, undef, undef, undef, undef, undef, undef, undef, undef, undef, undef, undef, undef, undef, undef, undef, undef, undef, undef, undef, undef, undef, undef, undef, undef, undef, undef, undef, undef, undef, undef, undef, undef, undef, undef, undef, undef, undef, undef, undef, undef, undef, undef, undef, undef, undef, undef, undef, undef, undef, undef, undef, undef, undef] w rfl
  apply seq_dag hmix h
  case hw =>
    apply Walk.cons
    · exact o_box41 1 rfl rfl rfl
    apply Walk.cons
    · exact o_alloc24 2 rfl rfl
    exact Walk.nil _
  case hck => kernel_rfl
  case hQ =>
    intro ρ A w1 h
    apply seq_dag hmix h
    case hw =>
      apply Walk.cons
      · exact o_load41 rfl rfl rfl rfl
      apply Walk.cons
      · exact ok_call_val rfl rfl fn51 [.v _] rfl (rd := []) (fun ρ w _ _ => carry_any _ w hx)
      apply Walk.cons
      · exact ok_call_val rfl rfl fn51 [.v _] rfl (rd := []) (fun ρ w _ _ => carry_any _ w (carry_loose hx).w5)
      apply Walk.cons
      · exact o_store41 rfl rfl rfl rfl rfl
      exact Walk.nil _
    case hck => kernel_rfl
    case hQ =>
      intro ρ A w1 h
      have hv := store_val x hx
      have hc := carry_snug hx
      generalize carryL (carryL x) = c at h hv hc
      generalize hn : lval x % pp = n at hv
      have hn : n < 2 ^ 256 := hn ▸ pp_lt _
      clear hx
      have h0 := hc.h0
      apply seq_dag hmix h
      case hw =>
        apply Walk.cons
        · exact o_at41 rfl rfl rfl rfl (by decide)
        apply Walk.cons
        · exact o_load39 rfl rfl rfl rfl (by decide)
        apply Walk.cons
        · exact o_bin rfl rfl rfl rfl (r_add64 (a := c.get 0) (b := 19) (by have := hc.get 0; omega))
        apply Walk.cons
        · exact o_bin rfl rfl rfl rfl (r_shr64 (c.get 0 + 19) 51 .u64 (by decide))
        apply Walk.cons
        · exact ok_assign rfl rfl rfl
        exact Walk.nil _
      case hck => kernel_rfl
      case hQ =>
        intro ρ A w1 h
        refine wp_seq ?_
        apply seq_dag hmix h
        case hw =>
          apply Walk.cons
          · exact ok_assign rfl rfl rfl
          exact Walk.nil _
        case hck => kernel_rfl
        case hQ =>
          intro ρ A w1 h
          have h := h.plain (storeS1 c 0) ⟨rfl, rfl, rfl, rfl, trivial⟩ ⟨rfl, rfl, trivial⟩ rfl
          refine wp_block ?_
          refine rep_loop 4 (storeS1 c) h ?_
          intro k ρ A w2 hk h
          have hqk := hc.qle k hk
          by_cases hlt : k < 4
          · have hgk := hc.get (k + 1)
            refine wp_seq ?_
            apply seq_dag hmix h
            case hw =>
              apply Walk.cons
              · exact ok_move rfl rfl rfl
              apply Walk.cons
              · exact o_bin rfl rfl rfl rfl (r_lss (a := k + 1) (b := 5) (decide_eq_true (by omega)))
              exact Walk.nil _
            case hck => kernel_rfl
            case hQ =>
              intro ρ A w1 h
              refine if_true' h rfl (wp_skip ?_)
              refine Exit.then_normal ?_
              refine wp_seq (wp_block ?_)
              apply region_dag hmix h
              case hw =>
                apply Walk.cons
                · exact ok_move rfl rfl rfl
                apply Walk.cons
                · exact o_at41 rfl rfl rfl rfl (j := k + 1) (by omega)
                apply Walk.cons
                · exact o_load39 rfl rfl rfl rfl (k := k + 1) (by omega)
                apply Walk.cons
                · exact ok_move rfl rfl rfl
                apply Walk.cons
                · exact o_bin rfl rfl rfl rfl (r_add64 (a := c.get (k + 1)) (b := qTo c k) (by omega))
                apply Walk.cons
                · exact o_bin rfl rfl rfl rfl (r_shr64 (c.get (k + 1) + qTo c k) 51 .u64 (by decide))
                apply Walk.cons
                · exact ok_assign rfl rfl rfl
                exact Walk.nil _
              case hck => kernel_rfl
              case hQ =>
                intro ρ A w1 h
                refine Exit.block_normal (Exit.then_normal ?_)
                apply region_dag hmix h
                case hw =>
                  apply Walk.cons
                  · exact ok_move rfl rfl rfl
                  apply Walk.cons
                  · exact o_bin rfl rfl rfl rfl (r_addi (a := k + 1) (b := 1) (by omega))
                  apply Walk.cons
                  · exact ok_assign rfl rfl rfl
                  exact Walk.nil _
                case hck => kernel_rfl
                case hQ =>
                  intro ρ A w1 h
                  exact ⟨_, hlt, h.plain (storeS1 c (k + 1)) ⟨rfl, rfl, rfl, rfl, trivial⟩ ⟨rfl, rfl, trivial⟩ rfl⟩
          · obtain rfl : k = 4 := by omega
            refine wp_seq ?_
            apply seq_dag hmix h
            case hw =>
              apply Walk.cons
              · exact ok_move rfl rfl rfl
              apply Walk.cons
              · exact o_bin rfl rfl rfl rfl (r_lss (a := 4 + 1) (b := 5) (decide_eq_false (by omega)))
              exact Walk.nil _
            case hck => kernel_rfl
            case hQ =>
              intro ρ A w1 h
              refine if_false' h rfl (wp_exit (at_exit' ?_))
              refine Exit.then_normal ?_
              have hg : ∀ k, (c.set 0 (c.a0 + 19 * qTo c 4)).get k < 4503599627370496 := by
                have h1 := hc.h1; have h2 := hc.h2; have h3 := hc.h3; have h4 := hc.h4
                intro k
                match k with
                | 0 => simp only [L5.get, L5.set]; simp; omega
                | 1 => simp only [L5.get, L5.set]; simp; omega
                | 2 => simp only [L5.get, L5.set]; simp; omega
                | 3 => simp only [L5.get, L5.set]; simp; omega
                | n + 4 => simp only [L5.get, L5.set]; simp; omega
              apply seq_dag hmix h
              case hw =>
                apply Walk.cons
                · exact o_at41 rfl rfl rfl rfl (by decide)
                apply Walk.cons
                · exact o_load39 rfl rfl rfl rfl (by decide)
                apply Walk.cons
                · exact ok_move rfl rfl rfl
                apply Walk.cons
                · exact o_bin rfl rfl rfl rfl (r_mul64 (a := 19) (b := qTo c 4) (by omega))
                apply Walk.cons
                · exact o_bin rfl rfl rfl rfl (r_add64 (a := c.get 0) (b := 19 * qTo c 4) (by have := hc.get 0; omega))
                apply Walk.cons
                · exact o_at41 rfl rfl rfl rfl (by decide)
                apply Walk.cons
                · exact o_store39 rfl rfl rfl rfl rfl (by decide)
                exact Walk.nil _
              case hck => kernel_rfl
              case hQ =>
                intro ρ A w1 h
                refine wp_seq ?_
                apply seq_dag hmix h
                case hw =>
                  apply Walk.cons
                  · exact ok_move rfl rfl rfl
                  exact Walk.nil _
                case hck => kernel_rfl
                case hQ =>
                  intro ρ A w1 h
                  have h := h.plain (storeS2 (c.set 0 (c.a0 + 19 * qTo c 4)) 0) ⟨rfl, rfl, rfl, trivial⟩ ⟨rfl, rfl, trivial⟩ rfl
                  have ht := lastL_tight c (qTo c 4)
                  unfold lastL at hv ht
                  generalize c.set 0 (c.a0 + 19 * qTo c 4) = c at h hv ht hg
                  refine wp_block ?_
                  refine rep_loop 4 (storeS2 c) h ?_
                  intro k ρ A w2 hk h
                  by_cases hlt : k < 4
                  · have hj := dTo_get hg k hk
                    have hj0 := hj k
                    have hj1 := hj (k + 1)
                    have hz : ((dTo c k).set (k + 1) ((dTo c k).get (k + 1) + (dTo c k).get k / 2251799813685248)).get k < 9007199254740992 := by
                      have : k = 0 ∨ k = 1 ∨ k = 2 ∨ k = 3 := by omega
                      rcases this with rfl | rfl | rfl | rfl <;> simpa [L5.get, L5.set] using hj0
                    apply seq_dag hmix h
                    case hw =>
                      apply Walk.cons
                      · exact o_bin rfl rfl rfl rfl (r_lss (decide_eq_true hlt))
                      exact Walk.nil _
                    case hck => kernel_rfl
                    case hQ =>
                      intro ρ A w1 h
                      refine go_on h rfl ?_
                      refine wp_seq (wp_block ?_)
                      apply seq_dag hmix h
                      case hw =>
                        apply Walk.cons
                        · exact ok_move rfl rfl rfl
                        apply Walk.cons
                        · exact ok_assign rfl rfl rfl
                        exact Walk.nil _
                      case hck => kernel_rfl
                      case hQ =>
                        intro ρ A w1 h
                        apply seq_dag hmix h
                        case hw =>
                          apply Walk.cons
                          · exact ok_move rfl rfl rfl
                          apply Walk.cons
                          · exact o_bin rfl rfl rfl rfl (r_addi (a := k) (b := 1) (by omega))
                          apply Walk.cons
                          · exact o_at41 rfl rfl rfl rfl (j := k + 1) (by omega)
                          apply Walk.cons
                          · exact o_load39 rfl rfl rfl rfl (k := k + 1) (by omega)
                          apply Walk.cons
                          · exact ok_move rfl rfl rfl
                          apply Walk.cons
                          · exact o_at41 rfl rfl rfl rfl (j := k) (by omega)
                          apply Walk.cons
                          · exact o_load39 rfl rfl rfl rfl (k := k) (by omega)
                          apply Walk.cons
                          · exact o_bin rfl rfl rfl rfl (r_shr64 ((dTo c k).get k) 51 .u64 (by decide))
                          apply Walk.cons
                          · exact o_bin rfl rfl rfl rfl (r_add64 (a := (dTo c k).get (k + 1)) (b := (dTo c k).get k / 2251799813685248) (by omega))
                          apply Walk.cons
                          · exact o_at41 rfl rfl rfl rfl (j := k + 1) (by omega)
                          apply Walk.cons
                          · exact o_store39 rfl rfl rfl rfl rfl (k := k + 1) (by omega)
                          exact Walk.nil _
                        case hck => kernel_rfl
                        case hQ =>
                          intro ρ A w1 h
                          apply region_dag hmix h
                          case hw =>
                            apply Walk.cons
                            · exact ok_move rfl rfl rfl
                            apply Walk.cons
                            · exact o_at41 rfl rfl rfl rfl (j := k) (by omega)
                            apply Walk.cons
                            · exact o_load39 rfl rfl rfl rfl (k := k) (by omega)
                            apply Walk.cons
                            · exact o_bin rfl rfl rfl rfl (r_and (and51 (Nat.lt_trans hz (by decide))))
                            apply Walk.cons
                            · exact o_at41 rfl rfl rfl rfl (j := k) (by omega)
                            apply Walk.cons
                            · exact o_store39 rfl rfl rfl rfl rfl (k := k) (by omega)
                            exact Walk.nil _
                          case hck => kernel_rfl
                          case hQ =>
                            intro ρ A w1 h
                            refine Exit.block_normal (Exit.then_normal ?_)
                            apply region_dag hmix h
                            case hw =>
                              apply Walk.cons
                              · exact o_bin rfl rfl rfl rfl (r_addi (a := k) (b := 1) (by omega))
                              apply Walk.cons
                              · exact ok_move rfl rfl rfl
                              exact Walk.nil _
                            case hck => kernel_rfl
                            case hQ =>
                              intro ρ A w1 h
                              exact ⟨_, hlt, h.plain (storeS2 c (k + 1)) ⟨rfl, rfl, rfl, trivial⟩ ⟨rfl, rfl, trivial⟩ rfl⟩
                  · obtain rfl : k = 4 := by omega
                    have h4 := dTo_get hg 4 (by decide) 4
                    have h := h.plain ⟨[(1, .p 1 0), (2, .p 2 0), (30, .v (.int .i64 4))], [(1, ⟨lvc (dTo c 4), 41⟩), (2, ⟨bvc 0, 24⟩)]⟩ ⟨rfl, rfl, rfl, trivial⟩ ⟨rfl, rfl, trivial⟩ rfl
                    simp only at hv ht
                    generalize dTo c 4 = d at h hv ht h4
                    apply seq_dag hmix h
                    case hw =>
                      apply Walk.cons
                      · exact o_bin rfl rfl rfl rfl (r_lss (a := 4) (b := 4) (decide_eq_false hlt))
                      exact Walk.nil _
                    case hck => kernel_rfl
                    case hQ =>
                      intro ρ A w1 h
                      refine leave h rfl ?_
                      refine Exit.then_normal ?_
                      apply seq_dag hmix h
                      case hw =>
                        apply Walk.cons
                        · exact o_at41 rfl rfl rfl rfl (by decide)
                        apply Walk.cons
                        · exact o_load39 rfl rfl rfl rfl (by decide)
                        apply Walk.cons
                        · exact o_bin rfl rfl rfl rfl (r_and (and51 (Nat.lt_trans h4 (by decide))))
                        apply Walk.cons
                        · exact o_at41 rfl rfl rfl rfl (by decide)
                        apply Walk.cons
                        · exact o_store39 rfl rfl rfl rfl rfl (by decide)
                        exact Walk.nil _
                      case hck => kernel_rfl
                      case hQ =>
                        intro ρ A w1 h
                        generalize d.set 4 (d.get 4 % 2251799813685248) = z at h hv ht
                        have h := h.plain ⟨[(1, .p 1 0), (2, .p 2 0)], [(1, ⟨lvc z, 41⟩), (2, ⟨bvc 0, 24⟩)]⟩ ⟨rfl, rfl, trivial⟩ ⟨rfl, rfl, trivial⟩ rfl
                        apply seq_dag hmix h
                        case hw =>
                          apply Walk.cons
                          · exact o_alloc24 6 rfl rfl
                          exact Walk.nil _
                        case hck => kernel_rfl
                        case hQ =>
                          intro ρ A w1 h
                          apply seq_dag hmix h
                          case hw =>
                            apply Walk.cons
                            · exact o_at41 rfl rfl rfl rfl (by decide)
                            apply Walk.cons
                            · exact o_load39 rfl rfl rfl rfl (by decide)
                            apply Walk.cons
                            · exact o_at41 rfl rfl rfl rfl (by decide)
                            apply Walk.cons
                            · exact o_load39 rfl rfl rfl rfl (by decide)
                            apply Walk.cons
                            · exact o_bin rfl rfl rfl rfl (r_shl64 (z.get 1) 51 .u64 (by decide))
                            apply Walk.cons
                            · exact o_bin rfl rfl rfl rfl (r_or (word0 ht))
                            apply Walk.cons
                            · exact ok_put rfl rfl (at_ := 0) (v := wordN (lval z) 0) rfl rfl (by decide)
                            exact Walk.nil _
                          case hck => kernel_rfl
                          case hQ =>
                            intro ρ A w1 h
                            apply seq_dag hmix h
                            case hw =>
                              apply Walk.cons
                              · exact o_at41 rfl rfl rfl rfl (by decide)
                              apply Walk.cons
                              · exact o_load39 rfl rfl rfl rfl (by decide)
                              apply Walk.cons
                              · exact o_bin rfl rfl rfl rfl (r_shr64 (z.get 1) 13 .u64 (by decide))
                              apply Walk.cons
                              · exact o_at41 rfl rfl rfl rfl (by decide)
                              apply Walk.cons
                              · exact o_load39 rfl rfl rfl rfl (by decide)
                              apply Walk.cons
                              · exact o_bin rfl rfl rfl rfl (r_shl64 (z.get 2) 38 .u64 (by decide))
                              apply Walk.cons
                              · exact o_bin rfl rfl rfl rfl (r_or (word1 ht))
                              apply Walk.cons
                              · exact ok_put rfl rfl (at_ := 8) (v := wordN (lval z) 8) rfl rfl (by decide)
                              exact Walk.nil _
                            case hck => kernel_rfl
                            case hQ =>
                              intro ρ A w1 h
                              apply seq_dag hmix h
                              case hw =>
                                apply Walk.cons
                                · exact o_at41 rfl rfl rfl rfl (by decide)
                                apply Walk.cons
                                · exact o_load39 rfl rfl rfl rfl (by decide)
                                apply Walk.cons
                                · exact o_bin rfl rfl rfl rfl (r_shr64 (z.get 2) 26 .u64 (by decide))
                                apply Walk.cons
                                · exact o_at41 rfl rfl rfl rfl (by decide)
                                apply Walk.cons
                                · exact o_load39 rfl rfl rfl rfl (by decide)
                                apply Walk.cons
                                · exact o_bin rfl rfl rfl rfl (r_shl64 (z.get 3) 25 .u64 (by decide))
                                apply Walk.cons
                                · exact o_bin rfl rfl rfl rfl (r_or (word2 ht))
                                apply Walk.cons
                                · exact ok_put rfl rfl (at_ := 16) (v := wordN (lval z) 16) rfl rfl (by decide)
                                exact Walk.nil _
                              case hck => kernel_rfl
                              case hQ =>
                                intro ρ A w1 h
                                apply seq_dag hmix h
                                case hw =>
                                  apply Walk.cons
                                  · exact o_at41 rfl rfl rfl rfl (by decide)
                                  apply Walk.cons
                                  · exact o_load39 rfl rfl rfl rfl (by decide)
                                  apply Walk.cons
                                  · exact o_bin rfl rfl rfl rfl (r_shr64 (z.get 3) 39 .u64 (by decide))
                                  apply Walk.cons
                                  · exact o_at41 rfl rfl rfl rfl (by decide)
                                  apply Walk.cons
                                  · exact o_load39 rfl rfl rfl rfl (by decide)
                                  apply Walk.cons
                                  · exact o_bin rfl rfl rfl rfl (r_shl64 (z.get 4) 12 .u64 (by decide))
                                  apply Walk.cons
                                  · exact o_bin rfl rfl rfl rfl (r_or (word3 ht))
                                  apply Walk.cons
                                  · exact ok_put rfl rfl (at_ := 24) (v := wordN (lval z) 24) rfl rfl (by decide)
                                  exact Walk.nil _
                                case hck => kernel_rfl
                                case hQ =>
                                  intro ρ A w1 h
                                  apply seq_dag hmix h
                                  case hw =>
                                    apply Walk.cons
                                    · exact o_load24 rfl rfl rfl rfl
                                    apply Walk.cons
                                    · exact o_store24 rfl rfl rfl rfl rfl
                                    exact Walk.nil _
                                  case hck => kernel_rfl
                                  case hQ =>
                                    intro ρ A w1 h
                                    refine wp_ret ?_
                                    exact h.result24 Try.results43 rfl rfl ⟨by rw [put_all 0 (lval z) (by omega), hv], h.below⟩
end Go.Proofs.Ytnbdeajjfhlmnaa
