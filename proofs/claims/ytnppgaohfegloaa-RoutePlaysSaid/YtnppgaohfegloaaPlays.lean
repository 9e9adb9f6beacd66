/-
  aditlaw10.RoutePlays: what it hands back is true, for any calls.
-/
import Derived.Test.YtnppgaohfegloaaBoth
namespace Go.Proofs.Ytnppgaohfegloaa
open Go.RowKit

theorem ref_nil_of {r : Nat} {f : Nat → Prop} {H : Hp} (h : (Blk.mk #[.slice none 0 0] 51).is r f H) : (Blk.ext (refA [])).is r f H := ⟨_, h.1, .inl ⟨rfl, rfl, h.2⟩⟩
theorem r_remz {P : Program} {t : TypeId} {k z : Int} (h : k.tmod 4 = z) (w : World) : (binOp .rem t (.int .i64 k) (.int .i64 4)).run P w = .ok (.int .i64 z) w := by
  subst h
  simp [binOp, Op.intDiv]
theorem all23_both {M : Tab} {L : List RowR} (hr : Rel M L) {t rt : Nat} {f f2 : Nat → Prop} {v : Value} (w : World) (hA : (tabA M).holds t f (hp w)) (hB : (refV v L).holds rt f2 (hp w)) :
    Calls Try.prog 23 #[.pointer (some ⟨t, 0, none⟩), v] w fun e w' => e = .returned (.bool true) ∧ Below w.heap.size w w' := by
  obtain ⟨ids, T, hI, _, hT⟩ := hA
  exact all23 hI w hT (hr.all hI) hr.cnt (Nat.le_trans hr.lim (by decide)) (fun x hx => (hr.wf x hx).1) (refV_row hB)
def plS (ad : Option Addr) (len cap i : Nat) (M : Tab) (L : List RowR) : St := ⟨[(0, .v (.slice ad len cap)), (2, .p 2 0), (4, .p 22 0), (5, .p 24 0), (6, fnA 32 32), (7, .v (.int .i64 (i : Nat)))], [(24, .ext (refA L)), (22, .ext (tabA M)), (2, .mk #[.bool false] 4), (32, .ext (collA []))]⟩
def plP (ad : Option Addr) (len cap i : Nat) (M : Tab) (L : List RowR) (p : OpR) (xs : List (Nat × AV)) : St := ⟨xs ++ [(0, .v (.slice ad len cap)), (2, .p 2 0), (4, .p 22 0), (5, .p 24 0), (6, fnA 32 32), (7, .v (.int .i64 (i : Nat))), (8, .p 8 0)], [(24, .ext (refA L)), (22, .ext (tabA M)), (2, .mk #[.bool false] 4), (32, .ext (collA [])), (8, .mk p.c 40)]⟩
set_option maxRecDepth 20000 in
set_option maxHeartbeats 4000000 in
theorem law6_any (rows : List OpR) (ad : Option Addr) (g off cap : Nat) (w : World) (hrl : rows.length < 9223372036854775808)
    (hrow : ∀ (j : Nat) (p : OpR), rows[j]? = some p → ad = some ⟨g, off, none⟩ ∧ ∀ i, i < 20 → w.cell? ⟨g, off + j * 20 + i, none⟩ = p.c[i]?) (hrn : ∀ (j : Nat) (p : OpR), rows[j]? = some p → p.n < 2 ^ 128) :
    Calls Try.prog 6 #[.slice ad rows.length cap] w fun e w' => e = .returned (.bool true) ∧ Below w.heap.size w w' := by
  refine calls_of_wp_marks Try.func6 rfl ?_
  simp only [Try.ntmps6, List.size_toArray, List.length_cons, List.length_nil, Nat.reduceAdd, Nat.reduceSub, Array.replicate_succ, Array.replicate_zero, List.push_toArray, List.append_toArray, List.nil_append, List.cons_append]
  have h := Rep.start (N := 157) [.slice ad rows.length cap] [undef, undef, undef, undef, undef, undef, undef, undef, undef, undef, undef, undef, undef, undef, undef, undef, undef, undef, undef, undef, undef, undef, undef, undef, undef, undef, undef, undef, undef, undef, undef, undef, undef, undef, undef, undef, undef, undef, undef, undef, undef, undef, undef, undef, undef, undef, undef, undef, undef, undef, undef, undef, undef, undef, undef, undef, undef, undef, undef, undef, undef, undef, undef, undef, undef, undef, undef, undef, undef, undef, undef, undef, undef, undef, undef, undef, undef, undef, undef, undef, undef, undef, undef, undef, undef, undef, undef, undef, undef, undef, undef, undef, undef, undef, undef, undef, undef, undef, undef, undef, undef, undef, undef, undef, undef, undef, undef, undef, undef, undef, undef, undef, undef, undef, undef, undef, undef, undef, undef, undef, undef, undef, undef, undef, undef, undef, undef, undef, undef, undef, undef, undef, undef, undef, undef, undef, undef, undef, undef, undef, undef, undef, undef, undef, undef, undef, undef, undef, undef, undef, undef, undef, undef, undef, undef, undef] w rfl
  apply seq_dag hmix h
  case hw =>
    apply Walk.cons
    · exact ok_alloc 2 rfl rfl zero4 (cs := #[.bool false]) rfl
    exact Walk.nil _
  case hck => kernel_rfl
  case hQ =>
    intro ρ A w1 h
    apply seq_dag hmix h
    case hw =>
      apply Walk.cons
      · exact ok_call_val rfl rfl fn8 [] rfl (rd := []) (fun ρ w _ _ => awake_any w)
      apply Walk.cons
      · exact ok_assign rfl rfl rfl
      exact Walk.nil _
    case hck => kernel_rfl
    case hQ =>
      intro ρ A w1 h
      apply seq_dag hmix h
      case hw =>
        apply Walk.cons
        · exact o_new 22 rfl rfl
        apply Walk.cons
        · exact ok_assign rfl rfl rfl
        exact Walk.nil _
      case hck => kernel_rfl
      case hQ =>
        intro ρ A w1 h
        apply seq_dag hmix h
        case hw =>
          apply Walk.cons
          · exact o_built rfl rfl (by kernel_rfl) (v := .agg #[.slice none 0 0]) (fun w => by kernel_rfl)
          apply Walk.cons
          · exact ok_box 24 rfl rfl rfl rfl (cs := #[.slice none 0 0])
          apply Walk.cons
          · exact ok_assign rfl rfl rfl
          exact Walk.nil _
        case hck => kernel_rfl
        case hQ =>
          intro ρ A w1 h
          have h := h.plain ⟨[(0, .v (.slice ad rows.length cap)), (2, .p 2 0), (3, .v (.bool true)), (4, .p 22 0), (5, .p 24 0)], [(24, .mk #[.slice none 0 0] 51), (22, .ext (tabA Tab.nil)), (2, .mk #[.bool false] 4)]⟩ ⟨rfl, rfl, rfl, rfl, rfl, trivial⟩ ⟨rfl, rfl, rfl, trivial⟩ rfl
          have h := h.recast (b' := .ext (refA [])) (fun _ _ _ hx => ref_nil_of hx)
          refine wp_seq ?_
          apply seq_dag hmix h
          case hw =>
            apply Walk.cons
            · exact ok_move rfl rfl rfl
            apply Walk.cons
            · exact ok_not rfl rfl rfl rfl
            apply Walk.cons
            · exact ok_move rfl rfl rfl
            apply Walk.cons
            · first | exact ok_skip rfl | exact ok_skip_u rfl | exact ok_move rfl rfl rfl
            apply Walk.cons
            · first | exact ok_skip rfl | exact ok_skip_u rfl | exact o_nonnil rfl rfl (.inl rfl) rfl rfl
            apply Walk.cons
            · first | exact ok_pick_true rfl rfl rfl rfl | exact ok_pick_false rfl rfl rfl rfl
            exact Walk.nil _
          case hck => kernel_rfl
          case hQ =>
            intro ρ A w1 h
            refine if_false' h rfl (wp_skip (Exit.then_normal ?_))
            apply seq_dag hmix h
            case hw =>
              apply Walk.cons
              · exact ok_move rfl rfl rfl
              apply Walk.cons
              · exact o_all6 32 rfl rfl rfl rfl Rel.nil
              apply Walk.cons
              · exact ok_assign rfl rfl rfl
              exact Walk.nil _
            case hck => kernel_rfl
            case hQ =>
              intro ρ A w1 h
              refine wp_seq ?_
              apply seq_dag hmix h
              case hw =>
                apply Walk.cons
                · exact ok_assign rfl rfl rfl
                exact Walk.nil _
              case hck => kernel_rfl
              case hQ =>
                intro ρ A w1 h
                have h := h.plain (plS ad rows.length cap 0 Tab.nil []) ⟨rfl, rfl, rfl, rfl, rfl, rfl, trivial⟩ ⟨rfl, rfl, rfl, rfl, trivial⟩ rfl
                refine wp_block ?_
                refine rep_loop_by (fun (x : Nat × Tab × List RowR) => rows.length - x.1) (fun (x : Nat × Tab × List RowR) => plS ad rows.length cap x.1 x.2.1 x.2.2) (fun (x : Nat × Tab × List RowR) => x.1 ≤ rows.length ∧ Rel x.2.1 x.2.2) (0, Tab.nil, []) ⟨Nat.zero_le _, Rel.nil⟩ h ?_
                clear h
                rintro ⟨i, M, L⟩ ρ A w2 ⟨hi1, hr⟩ h
                simp only at hi1 hr h
                refine wp_seq ?_
                by_cases hil : i < rows.length
                · obtain ⟨p, hp⟩ : ∃ p, rows[i]? = some p := ⟨_, List.getElem?_eq_getElem hil⟩
                  obtain ⟨had, hcells⟩ := hrow i p hp
                  have hpn := hrn i p hp
                  apply seq_dag hmix h
                  case hw =>
                    apply Walk.cons
                    · exact ok_move rfl rfl rfl
                    apply Walk.cons
                    · exact ok_move rfl rfl rfl
                    apply Walk.cons
                    · exact ok_len_ro rfl rfl rfl Try.underlying36
                    apply Walk.cons
                    · exact o_bin rfl rfl rfl rfl (r_lss (a := i) (b := rows.length) (decide_eq_true hil))
                    exact Walk.nil _
                  case hck => kernel_rfl
                  case hQ =>
                    intro ρ A w1 h
                    refine if_true' h rfl (wp_skip ?_)
                    refine Exit.then_normal ?_
                    refine wp_seq (wp_block ?_)
                    apply seq_dag hmix h
                    case hw =>
                      apply Walk.cons
                      · exact ok_move rfl rfl rfl
                      apply Walk.cons
                      · exact ok_move rfl rfl rfl
                      apply Walk.cons
                      · exact o_rat rfl rfl rfl rfl Try.underlying36 sz40 had hil
                      apply Walk.cons
                      · exact o_r40 (p := p) rfl rfl rfl (fun h => h) hcells
                      apply Walk.cons
                      · exact ok_alloc 8 rfl rfl zero40 (cs := opc 0 0 false 0 0) rfl
                      apply Walk.cons
                      · exact ok_store_whole rfl rfl rfl rfl rfl sz40 rfl (one_opc p.k p.o p.v p.n p.b) rfl
                      exact Walk.nil _
                    case hck => kernel_rfl
                    case hQ =>
                      intro ρ A w1 h
                      have h := h.plain (plP ad rows.length cap i M L p []) ⟨rfl, rfl, rfl, rfl, rfl, rfl, rfl, trivial⟩ ⟨rfl, rfl, rfl, rfl, rfl, trivial⟩ rfl
                      obtain ⟨K2, hK2⟩ : ∃ K2 : Act → World → Prop, K2 = fun a w' => ∃ M' L' ρ, Rel M' L' ∧ Rep 157 (plP ad rows.length cap i M' L' p []) ρ { W := w } a w' := ⟨_, rfl⟩
                      obtain ⟨z, hz⟩ : ∃ z, p.k.tmod 4 = z := ⟨_, rfl⟩
                      refine wp_seq (wp_join K2 ?_ ?_)
                      · have h := h
                        apply seq_dag hmix h
                        case hw =>
                          apply Walk.cons
                          · exact ok_fld rfl rfl rfl fo40_0 rfl
                          apply Walk.cons
                          · exact ok_load_cell rfl rfl rfl rfl one3 rfl
                          apply Walk.cons
                          · exact o_bin rfl rfl rfl rfl (r_remz hz)
                          exact Walk.nil _
                        case hck => kernel_rfl
                        case hQ =>
                          intro ρ A w1 h
                          refine wp_block ?_
                          refine wp_seq (wp_join (fun a w' => ∃ c ρ, Rep 157 (plP ad rows.length cap i M L p [(45, .v (.int .i64 z)), (60, .v (.bool c))]) ρ { W := w } a w') ?_ ?_)
                          · obtain ⟨c1, hc1⟩ : ∃ c, decide (z = 2) = c := ⟨_, rfl⟩
                            apply seq_dag hmix h
                            case hw =>
                              apply Walk.cons
                              · exact o_bin rfl rfl rfl rfl (r_eqlz hc1)
                              apply Walk.cons
                              · exact ok_assign rfl rfl rfl
                              exact Walk.nil _
                            case hck => kernel_rfl
                            case hQ =>
                              intro ρ A w1 h
                              cases c1 with
                              | true =>
                                refine if_true' h rfl (wp_skip (Exit.then_normal ?_))
                                exact ⟨true, _, h.plain (plP ad rows.length cap i M L p [(45, .v (.int .i64 z)), (60, .v (.bool _))]) ⟨rfl, rfl, rfl, rfl, rfl, rfl, rfl, rfl, rfl, trivial⟩ ⟨rfl, rfl, rfl, rfl, rfl, trivial⟩ rfl⟩
                              | false =>
                                refine if_false' h rfl ?_
                                obtain ⟨c2, hc2⟩ : ∃ c, decide (z = -2) = c := ⟨_, rfl⟩
                                apply region_dag hmix h
                                case hw =>
                                  apply Walk.cons
                                  · exact o_bin rfl rfl rfl rfl (r_eqlz hc2)
                                  apply Walk.cons
                                  · exact ok_assign rfl rfl rfl
                                  exact Walk.nil _
                                case hck => kernel_rfl
                                case hQ =>
                                  intro ρ A w1 h
                                  refine Exit.then_normal ?_
                                  exact ⟨c2, _, h.plain (plP ad rows.length cap i M L p [(45, .v (.int .i64 z)), (60, .v (.bool _))]) ⟨rfl, rfl, rfl, rfl, rfl, rfl, rfl, rfl, rfl, trivial⟩ ⟨rfl, rfl, rfl, rfl, rfl, trivial⟩ rfl⟩
                          · clear h
                            rintro A w3 ⟨c, ρ, h⟩
                            cases c with
                            | true =>
                              refine if_true' h rfl ?_
                              obtain ⟨x, c, M', L', hr', hT, hR⟩ := drop_both hr p.v p.n p.b hpn
                              apply seq_dag hmix h
                              case hw =>
                                apply Walk.cons
                                · exact ok_move rfl rfl rfl
                                apply Walk.cons
                                · exact ok_fld rfl rfl rfl fo40_2 rfl
                                apply Walk.cons
                                · exact o_l31c rfl rfl rfl rfl
                                apply Walk.cons
                                · exact o_makes rfl rfl fn15 hT rfl rfl
                                apply Walk.cons
                                · exact ok_move rfl rfl rfl
                                apply Walk.cons
                                · exact ok_extract rfl rfl rfl rfl
                                apply Walk.cons
                                · exact ok_extract rfl rfl rfl rfl
                                apply Walk.cons
                                · exact ok_assign rfl rfl rfl
                                apply Walk.cons
                                · exact ok_assign rfl rfl rfl
                                exact Walk.nil _
                              case hck => kernel_rfl
                              case hQ =>
                                intro ρ A w1 h
                                apply seq_dag hmix h
                                case hw =>
                                  apply Walk.cons
                                  · exact ok_move rfl rfl rfl
                                  apply Walk.cons
                                  · exact ok_fld rfl rfl rfl fo40_2 rfl
                                  apply Walk.cons
                                  · exact o_l31c rfl rfl rfl rfl
                                  apply Walk.cons
                                  · exact o_makes rfl rfl fn18 hR rfl rfl
                                  apply Walk.cons
                                  · exact ok_move rfl rfl rfl
                                  apply Walk.cons
                                  · exact ok_extract rfl rfl rfl rfl
                                  apply Walk.cons
                                  · exact ok_extract rfl rfl rfl rfl
                                  apply Walk.cons
                                  · exact ok_assign rfl rfl rfl
                                  apply Walk.cons
                                  · exact ok_assign rfl rfl rfl
                                  exact Walk.nil _
                                case hck => kernel_rfl
                                case hQ =>
                                  intro ρ A w1 h
                                  apply seq_dag hmix h
                                  case hw =>
                                    apply Walk.cons
                                    · exact ok_move rfl rfl rfl
                                    apply Walk.cons
                                    · exact ok_move rfl rfl rfl
                                    apply Walk.cons
                                    · exact o_bin rfl rfl rfl rfl (r_neqz (decide_eq_false (fun h => h rfl)))
                                    apply Walk.cons
                                    · exact ok_move rfl rfl rfl
                                    apply Walk.cons
                                    · first | exact ok_skip rfl | exact ok_skip_u rfl | exact ok_move rfl rfl rfl
                                    apply Walk.cons
                                    · first | exact ok_skip rfl | exact ok_skip_u rfl | exact ok_move rfl rfl rfl
                                    apply Walk.cons
                                    · first | exact ok_skip rfl | exact ok_skip_u rfl | exact o_neqb rfl rfl rfl rfl (bne_self_eq_false c)
                                    apply Walk.cons
                                    · first | exact ok_pick_true rfl rfl rfl rfl | exact ok_pick_false rfl rfl rfl rfl
                                    exact Walk.nil _
                                  case hck => kernel_rfl
                                  case hQ =>
                                    intro ρ A w1 h
                                    refine if_false' h rfl (wp_skip ?_)
                                    repeat (first | refine Exit.block_normal ?_ | refine Exit.then_normal ?_)
                                    rw [hK2]
                                    exact ⟨M', L', _, hr', h.plain (plP ad rows.length cap i M' L' p []) ⟨rfl, rfl, rfl, rfl, rfl, rfl, rfl, trivial⟩ ⟨rfl, rfl, rfl, rfl, rfl, trivial⟩ rfl⟩
                            | false =>
                              refine if_false' h rfl ?_
                              refine wp_seq (wp_join (fun a w' => ∃ c ρ, Rep 157 (plP ad rows.length cap i M L p [(45, .v (.int .i64 z)), (85, .v (.bool c))]) ρ { W := w } a w') ?_ ?_)
                              · obtain ⟨c1, hc1⟩ : ∃ c, decide (z = 3) = c := ⟨_, rfl⟩
                                apply seq_dag hmix h
                                case hw =>
                                  apply Walk.cons
                                  · exact o_bin rfl rfl rfl rfl (r_eqlz hc1)
                                  apply Walk.cons
                                  · exact ok_assign rfl rfl rfl
                                  exact Walk.nil _
                                case hck => kernel_rfl
                                case hQ =>
                                  intro ρ A w1 h
                                  cases c1 with
                                  | true =>
                                    refine if_true' h rfl (wp_skip (Exit.then_normal ?_))
                                    exact ⟨true, _, h.plain (plP ad rows.length cap i M L p [(45, .v (.int .i64 z)), (85, .v (.bool _))]) ⟨rfl, rfl, rfl, rfl, rfl, rfl, rfl, rfl, rfl, trivial⟩ ⟨rfl, rfl, rfl, rfl, rfl, trivial⟩ rfl⟩
                                  | false =>
                                    refine if_false' h rfl ?_
                                    obtain ⟨c2, hc2⟩ : ∃ c, decide (z = -3) = c := ⟨_, rfl⟩
                                    apply region_dag hmix h
                                    case hw =>
                                      apply Walk.cons
                                      · exact o_bin rfl rfl rfl rfl (r_eqlz hc2)
                                      apply Walk.cons
                                      · exact ok_assign rfl rfl rfl
                                      exact Walk.nil _
                                    case hck => kernel_rfl
                                    case hQ =>
                                      intro ρ A w1 h
                                      refine Exit.then_normal ?_
                                      exact ⟨c2, _, h.plain (plP ad rows.length cap i M L p [(45, .v (.int .i64 z)), (85, .v (.bool _))]) ⟨rfl, rfl, rfl, rfl, rfl, rfl, rfl, rfl, rfl, trivial⟩ ⟨rfl, rfl, rfl, rfl, rfl, trivial⟩ rfl⟩
                              · clear h
                                rintro A w3 ⟨c, ρ, h⟩
                                cases c with
                                | true =>
                                  refine if_true' h rfl ?_
                                  apply seq_dag hmix h
                                  case hw =>
                                    apply Walk.cons
                                    · exact ok_move rfl rfl rfl
                                    apply Walk.cons
                                    · exact ok_fld rfl rfl rfl fo40_2 rfl
                                    apply Walk.cons
                                    · exact ok_fld rfl rfl rfl fo31_0 rfl
                                    apply Walk.cons
                                    · exact o_l24c rfl rfl rfl rfl
                                    apply Walk.cons
                                    · exact ok_call_val rfl rfl fn11 [.p 22 0, .v _] rfl (rd := [22]) (fun ρ w h0 _ => find_any p.v p.n hpn w (h0 22 (by simp) _ rfl))
                                    apply Walk.cons
                                    · exact ok_move rfl rfl rfl
                                    apply Walk.cons
                                    · exact ok_extract rfl rfl rfl rfl
                                    apply Walk.cons
                                    · exact ok_extract rfl rfl rfl rfl
                                    apply Walk.cons
                                    · exact ok_extract rfl rfl rfl rfl
                                    apply Walk.cons
                                    · exact o_alloc31 14 rfl rfl
                                    apply Walk.cons
                                    · exact ok_assign rfl rfl rfl
                                    apply Walk.cons
                                    · exact o_store31 rfl rfl rfl rfl rfl
                                    apply Walk.cons
                                    · exact ok_assign rfl rfl rfl
                                    exact Walk.nil _
                                  case hck => kernel_rfl
                                  case hQ =>
                                    intro ρ A w1 h
                                    apply seq_dag hmix h
                                    case hw =>
                                      apply Walk.cons
                                      · exact ok_move rfl rfl rfl
                                      apply Walk.cons
                                      · exact ok_fld rfl rfl rfl fo40_2 rfl
                                      apply Walk.cons
                                      · exact ok_fld rfl rfl rfl fo31_0 rfl
                                      apply Walk.cons
                                      · exact o_l24c rfl rfl rfl rfl
                                      apply Walk.cons
                                      · exact ok_call_val rfl rfl fn19 [.p 24 0, .v _] rfl (rd := [24]) (fun ρ w h0 _ => rfind_both hr p.v p.n hpn w (h0 24 (by simp) _ rfl))
                                      apply Walk.cons
                                      · exact ok_move rfl rfl rfl
                                      apply Walk.cons
                                      · exact ok_extract rfl rfl rfl rfl
                                      apply Walk.cons
                                      · exact ok_extract rfl rfl rfl rfl
                                      apply Walk.cons
                                      · exact ok_extract rfl rfl rfl rfl
                                      apply Walk.cons
                                      · exact o_alloc31 17 rfl rfl
                                      apply Walk.cons
                                      · exact ok_assign rfl rfl rfl
                                      apply Walk.cons
                                      · exact o_store31 rfl rfl rfl rfl rfl
                                      apply Walk.cons
                                      · exact ok_assign rfl rfl rfl
                                      exact Walk.nil _
                                    case hck => kernel_rfl
                                    case hQ =>
                                      intro ρ A w1 h
                                      apply seq_dag hmix h
                                      case hw =>
                                        apply Walk.cons
                                        · exact ok_move rfl rfl rfl
                                        apply Walk.cons
                                        · exact ok_move rfl rfl rfl
                                        apply Walk.cons
                                        · exact o_bin rfl rfl rfl rfl (r_neqz (decide_eq_false (fun h => h rfl)))
                                        apply Walk.cons
                                        · exact ok_move rfl rfl rfl
                                        apply Walk.cons
                                        · first | exact ok_skip rfl | exact ok_skip_u rfl | exact o_load31 rfl rfl rfl rfl
                                        apply Walk.cons
                                        · first | exact ok_skip rfl | exact ok_skip_u rfl | exact o_load31 rfl rfl rfl rfl
                                        apply Walk.cons
                                        · first | exact ok_skip rfl | exact ok_skip_u rfl | exact o_neq31 rfl rfl rfl rfl (acP_lt p.v hpn _) (acP_lt p.v hpn _) (c := false) (by simp)
                                        apply Walk.cons
                                        · first | exact ok_pick_true rfl rfl rfl rfl | exact ok_pick_false rfl rfl rfl rfl
                                        apply Walk.cons
                                        · exact ok_move rfl rfl rfl
                                        apply Walk.cons
                                        · first | exact ok_skip rfl | exact ok_skip_u rfl | exact ok_move rfl rfl rfl
                                        apply Walk.cons
                                        · first | exact ok_skip rfl | exact ok_skip_u rfl | exact ok_move rfl rfl rfl
                                        apply Walk.cons
                                        · first | exact ok_skip rfl | exact ok_skip_u rfl | exact o_neqb rfl rfl rfl rfl (bne_self_eq_false _)
                                        apply Walk.cons
                                        · first | exact ok_pick_true rfl rfl rfl rfl | exact ok_pick_false rfl rfl rfl rfl
                                        exact Walk.nil _
                                      case hck => kernel_rfl
                                      case hQ =>
                                        intro ρ A w1 h
                                        refine if_false' h rfl (wp_skip ?_)
                                        repeat (first | refine Exit.block_normal ?_ | refine Exit.then_normal ?_)
                                        rw [hK2]
                                        exact ⟨M, L, _, hr, h.plain (plP ad rows.length cap i M L p []) ⟨rfl, rfl, rfl, rfl, rfl, rfl, rfl, trivial⟩ ⟨rfl, rfl, rfl, rfl, rfl, trivial⟩ rfl⟩
                                | false =>
                                  refine if_false' h rfl ?_
                                  obtain ⟨x, M', L', hr', hT, hR⟩ := put_both hr p.v p.n p.b p.o hpn
                                  apply seq_dag hmix h
                                  case hw =>
                                    apply Walk.cons
                                    · exact ok_move rfl rfl rfl
                                    apply Walk.cons
                                    · exact ok_fld rfl rfl rfl fo40_2 rfl
                                    apply Walk.cons
                                    · exact o_l31c rfl rfl rfl rfl
                                    apply Walk.cons
                                    · exact ok_fld rfl rfl rfl fo40_1 rfl
                                    apply Walk.cons
                                    · exact ok_load_cell rfl rfl rfl rfl one3 rfl
                                    apply Walk.cons
                                    · exact o_makes rfl rfl fn10 hT rfl rfl
                                    apply Walk.cons
                                    · exact ok_assign rfl rfl rfl
                                    exact Walk.nil _
                                  case hck => kernel_rfl
                                  case hQ =>
                                    intro ρ A w1 h
                                    apply seq_dag hmix h
                                    case hw =>
                                      apply Walk.cons
                                      · exact ok_move rfl rfl rfl
                                      apply Walk.cons
                                      · exact ok_move rfl rfl rfl
                                      apply Walk.cons
                                      · exact ok_fld rfl rfl rfl fo40_2 rfl
                                      apply Walk.cons
                                      · exact o_l31c rfl rfl rfl rfl
                                      apply Walk.cons
                                      · exact ok_fld rfl rfl rfl fo40_1 rfl
                                      apply Walk.cons
                                      · exact ok_load_cell rfl rfl rfl rfl one3 rfl
                                      apply Walk.cons
                                      · exact o_makes rfl rfl fn20 hR rfl rfl
                                      apply Walk.cons
                                      · exact o_bin rfl rfl rfl rfl (r_neqz (decide_eq_false (fun h => h rfl)))
                                      exact Walk.nil _
                                    case hck => kernel_rfl
                                    case hQ =>
                                      intro ρ A w1 h
                                      refine if_false' h rfl (wp_skip ?_)
                                      repeat (first | refine Exit.block_normal ?_ | refine Exit.then_normal ?_)
                                      rw [hK2]
                                      exact ⟨M', L', _, hr', h.plain (plP ad rows.length cap i M' L' p []) ⟨rfl, rfl, rfl, rfl, rfl, rfl, rfl, trivial⟩ ⟨rfl, rfl, rfl, rfl, rfl, trivial⟩ rfl⟩
                      · clear h hr
                        rintro A w3 hK
                        rw [hK2] at hK
                        clear hK2 K2
                        obtain ⟨M', L', ρ, hr, h⟩ := hK
                        obtain ⟨ad', cap', hV⟩ := refV_of (h.mem 24 _ rfl)
                        have h := Rep.recastAt (b' := .ext (refV (.slice ad' L'.length cap') L')) h hV
                        apply seq_dag hmix h
                        case hw =>
                          apply Walk.cons
                          · exact ok_move rfl rfl rfl
                          apply Walk.cons
                          · exact o_len (M := M') rfl rfl rfl rfl hr.cnt
                          apply Walk.cons
                          · exact ok_move rfl rfl rfl
                          apply Walk.cons
                          · exact ok_nil rfl rfl rfl
                          apply Walk.cons
                          · exact ok_fld rfl rfl rfl fo51_0 rfl
                          apply Walk.cons
                          · exact o_ref49 rfl rfl rfl rfl
                          apply Walk.cons
                          · exact ok_len_ro rfl rfl rfl Try.underlying49
                          apply Walk.cons
                          · exact o_bin rfl rfl rfl rfl (r_neqi (decide_eq_false (fun h => h rfl)))
                          apply Walk.cons
                          · exact ok_move rfl rfl rfl
                          apply Walk.cons
                          · first | exact ok_skip rfl | exact ok_skip_u rfl | exact ok_fld rfl rfl rfl fo40_2 rfl
                          apply Walk.cons
                          · first | exact ok_skip rfl | exact ok_skip_u rfl | exact o_l31c rfl rfl rfl rfl
                          apply Walk.cons
                          · first | exact ok_skip rfl | exact ok_skip_u rfl | exact ok_call_val rfl rfl fn13 [.v _] rfl (rd := []) (fun _ w _ _ => isPrefix_any p.v p.n p.b w)
                          apply Walk.cons
                          · first | exact ok_skip rfl | exact ok_skip_u rfl | exact ok_fld rfl rfl rfl fo40_2 rfl
                          apply Walk.cons
                          · first | exact ok_skip rfl | exact ok_skip_u rfl | exact o_l31c rfl rfl rfl rfl
                          apply Walk.cons
                          · first | exact ok_skip rfl | exact ok_skip_u rfl | exact ok_call_val rfl rfl fn21 [.v _] rfl (rd := []) (fun _ w _ _ => right_any p.v p.n p.b w)
                          apply Walk.cons
                          · first | exact ok_skip rfl | exact ok_skip_u rfl | exact o_neqb rfl rfl rfl rfl (bne_self_eq_false _)
                          apply Walk.cons
                          · first | exact ok_pick_true rfl rfl rfl rfl | exact ok_pick_false rfl rfl rfl rfl
                          apply Walk.cons
                          · exact ok_move rfl rfl rfl
                          apply Walk.cons
                          · first | exact ok_skip rfl | exact ok_skip_u rfl | exact ok_fld rfl rfl rfl fo40_2 rfl
                          apply Walk.cons
                          · first | exact ok_skip rfl | exact ok_skip_u rfl | exact o_l31c rfl rfl rfl rfl
                          apply Walk.cons
                          · first | exact ok_skip rfl | exact ok_skip_u rfl | exact ok_call_val rfl rfl fn14 [.v _] rfl (rd := []) (fun _ w _ _ => whole_any p.v p.n p.b hpn w)
                          apply Walk.cons
                          · first | exact ok_skip rfl | exact ok_skip_u rfl | exact ok_fld rfl rfl rfl fo40_2 rfl
                          apply Walk.cons
                          · first | exact ok_skip rfl | exact ok_skip_u rfl | exact o_l31c rfl rfl rfl rfl
                          apply Walk.cons
                          · first | exact ok_skip rfl | exact ok_skip_u rfl | exact ok_call_val rfl rfl fn22 [.v _] rfl (rd := []) (fun _ w _ _ => rwhole_any p.v p.n p.b hpn w)
                          apply Walk.cons
                          · first | exact ok_skip rfl | exact ok_skip_u rfl | exact o_neq31 rfl rfl rfl rfl (whR_lt p.v p.b hpn) (whR_lt p.v p.b hpn) (c := false) (by simp)
                          apply Walk.cons
                          · first | exact ok_pick_true rfl rfl rfl rfl | exact ok_pick_false rfl rfl rfl rfl
                          exact Walk.nil _
                        case hck => kernel_rfl
                        case hQ =>
                          intro ρ A w1 h
                          refine if_false' h rfl (wp_skip ?_)
                          repeat (first | refine Exit.block_normal ?_ | refine Exit.then_normal ?_)
                          apply region_dag hmix h
                          case hw =>
                            apply Walk.cons
                            · exact ok_move rfl rfl rfl
                            apply Walk.cons
                            · exact o_bin rfl rfl rfl rfl (r_addi (b := 1) (by omega))
                            apply Walk.cons
                            · exact ok_assign rfl rfl rfl
                            exact Walk.nil _
                          case hck => kernel_rfl
                          case hQ =>
                            intro ρ A w1 h
                            have h := h.plain ⟨(plS ad rows.length cap (i + 1) M' L').slots, [(24, .ext (refV (.slice ad' L'.length cap') L')), (22, .ext (tabA M')), (2, .mk #[.bool false] 4), (32, .ext (collA []))]⟩ ⟨rfl, rfl, rfl, rfl, rfl, rfl, trivial⟩ ⟨rfl, rfl, rfl, rfl, trivial⟩ rfl
                            have h := h.recast (b' := .ext (refA L')) (fun _ _ _ hx => refA_of hx)
                            exact ⟨(i + 1, M', L'), _, by simp only; omega, ⟨by simp only; omega, hr⟩, h⟩
                · obtain rfl : i = rows.length := by omega
                  apply seq_dag hmix h
                  case hw =>
                    apply Walk.cons
                    · exact ok_move rfl rfl rfl
                    apply Walk.cons
                    · exact ok_move rfl rfl rfl
                    apply Walk.cons
                    · exact ok_len_ro rfl rfl rfl Try.underlying36
                    apply Walk.cons
                    · exact o_bin rfl rfl rfl rfl (r_lss (a := rows.length) (b := rows.length) (decide_eq_false hil))
                    exact Walk.nil _
                  case hck => kernel_rfl
                  case hQ =>
                    intro ρ A w1 h
                    refine if_false' h rfl (wp_exit ?_)
                    repeat (first | refine Exit.thenExit ?_ | refine Exit.blockExitNe (by decide) ?_)
                    refine Exit.blockExit ?_
                    refine Exit.then_normal ?_
                    refine wp_seq ?_
                    apply seq_dag hmix h
                    case hw =>
                      apply Walk.cons
                      · exact ok_move rfl rfl rfl
                      apply Walk.cons
                      · exact o_fnnil6 rfl rfl rfl rfl
                      exact Walk.nil _
                    case hck => kernel_rfl
                    case hQ =>
                      intro ρ A w1 h
                      refine if_false' h rfl (wp_skip (Exit.then_normal ?_))
                      refine wp_seq ?_
                      apply seq_dag hmix h
                      case hw =>
                        apply Walk.cons
                        · exact ok_move rfl rfl rfl
                        exact Walk.nil _
                      case hck => kernel_rfl
                      case hQ =>
                        intro ρ A w1 h
                        have h := h.plain ⟨[(2, .p 2 0), (4, .p 22 0), (5, .p 24 0), (147, fnA 32 32)], [(24, .ext (refA L)), (22, .ext (tabA M)), (2, .mk #[.bool false] 4), (32, .ext (collA []))]⟩ ⟨rfl, rfl, rfl, rfl, trivial⟩ ⟨rfl, rfl, rfl, rfl, trivial⟩ rfl
                        refine wp_block ?_
                        have hq : (collA []).holds (ρ.num 32) (ρ.foot 32) (hp w1) := h.mem 32 _ rfl
                        refine wp_range0 (gf := 32) (lb := #[.pointer (some ⟨ρ.num 32, 0, none⟩)]) (h.eval_tmp (t := 147) (av := fnA 32 32) rfl) fn32 (fun l w2 hold => seq_none l (ρ.num 32) w2 (f := ρ.foot 32) ((collA []).loc hq fun n hn => hold n (by
                          obtain ⟨o, ho⟩ := (collA []).live hq hn
                          exact lt_of_hp ho))) ?_
                        intro D w3 hD hD3 hbl
                        have hD0 : w.heap.size ≤ D := Nat.le_trans h.keeps.size hD
                        have h := h.mark hD hD3 hbl 95 rfl [(2, .p 2 0), (4, .p 22 0), (5, .p 24 0)] [(24, .ext (refA L)), (22, .ext (tabA M)), (2, .mk #[.bool false] 4)] ⟨rfl, rfl, rfl, trivial⟩ ⟨rfl, rfl, rfl, trivial⟩ rfl rfl
                        refine Exit.block_normal (Exit.then_normal ?_)
                        have h := h.plain ⟨[(2, .p 2 0), (4, .p 22 0), (5, .p 24 0)], [(24, .ext (refA L)), (22, .ext (tabA M)), (2, .mk #[.bool false] 4), (95, .ext (markA D))]⟩ ⟨rfl, rfl, rfl, trivial⟩ ⟨rfl, rfl, rfl, rfl, trivial⟩ rfl
                        obtain ⟨ad', cap', hV⟩ := refV_of (h.mem 24 _ rfl)
                        have h := Rep.recastAt (b' := .ext (refV (.slice ad' L.length cap') L)) h hV
                        apply seq_dag hmix h
                        case hw =>
                          apply Walk.cons
                          · exact ok_move rfl rfl rfl
                          apply Walk.cons
                          · exact ok_move rfl rfl rfl
                          apply Walk.cons
                          · exact ok_nil rfl rfl rfl
                          apply Walk.cons
                          · exact ok_fld rfl rfl rfl fo51_0 rfl
                          apply Walk.cons
                          · exact o_ref49 rfl rfl rfl rfl
                          apply Walk.cons
                          · exact ok_call_val rfl rfl fn23 [.p 22 0, .v _] rfl (rd := [22, 24]) (fun ρ w h0 _ => all23_both hr w (h0 22 (by simp) _ rfl) (h0 24 (by simp) _ rfl))
                          apply Walk.cons
                          · exact ok_assign rfl rfl rfl
                          exact Walk.nil _
                        case hck => kernel_rfl
                        case hQ =>
                          intro ρ A w1 h
                          apply seq_dag hmix h
                          case hw =>
                            apply Walk.cons
                            · exact ok_move rfl rfl rfl
                            apply Walk.cons
                            · exact ok_store_cell (cs := #[.bool true]) rfl rfl rfl rfl rfl sz4 rfl (by decide) rfl
                            exact Walk.nil _
                          case hck => kernel_rfl
                          case hQ =>
                            intro ρ A w1 h
                            refine wp_ret ?_
                            exact h.result_marks (k := 95) Try.results6 rfl rfl one4 rfl rfl rfl (fun w' hb => ⟨rfl, hb⟩) hD0
end Go.Proofs.Ytnppgaohfegloaa
