/-
  The walk of the document's Put.
-/
import Derived.Test.YtnppgaohfegloaaRApp
namespace Go.Proofs.Ytnppgaohfegloaa
open Go.RowKit

theorem rput_bad {rt : Nat} (v : Bool) (n : Nat) (b o : Int) (hp' : isPfx v n b = false) (w : World) : Calls Try.prog 20 #[.pointer (some ⟨rt, 0, none⟩), .agg (pfc v n b), .int .i64 o] w fun e w' => e = .returned (.int .i64 25) ∧ Below w.heap.size w w' := by
  have hpre : ∀ w, Calls Try.prog 21 #[.agg (pfc v n b)] w fun e w' => e = .returned (.bool false) ∧ Below w.heap.size w w' := fun w => hp' ▸ right_any v n b w
  go_enter Try.func20, Try.ntmps20
  have h := Rep.start (N := 96) [.pointer (some ⟨rt, 0, none⟩), .agg (pfc v n b), .int .i64 o] [undef, undef, undef, undef, undef, undef, undef, undef, undef, undef, undef, undef, undef, undef, undef, undef, undef, undef, undef, undef, undef, undef, undef, undef, undef, undef, undef, undef, undef, undef, undef, undef, undef, undef, undef, undef, undef, undef, undef, undef, undef, undef, undef, undef, undef, undef, undef, undef, undef, undef, undef, undef, undef, undef, undef, undef, undef, undef, undef, undef, undef, undef, undef, undef, undef, undef, undef, undef, undef, undef, undef, undef, undef, undef, undef, undef, undef, undef, undef, undef, undef, undef, undef, undef, undef, undef, undef, undef, undef, undef, undef, undef, undef] w rfl
  apply seq_dag hmix h
  case hw =>
    apply Walk.cons
    · exact o_box31 4 rfl rfl rfl
    apply Walk.cons
    · exact ok_assign rfl rfl rfl
    exact Walk.nil _
  case hck => kernel_rfl
  case hQ =>
    intro ρ A w1 h
    apply seq_dag hmix h
    case hw =>
      apply Walk.cons
      · first | exact o_load31 rfl rfl rfl rfl | exact o_load31op rfl rfl rfl rfl
      apply Walk.cons
      · exact ok_call_val rfl rfl fn21 [.v _] rfl (rd := []) (fun _ w _ _ => hpre w)
      apply Walk.cons
      · exact ok_assign rfl rfl rfl
      exact Walk.nil _
    case hck => kernel_rfl
    case hQ =>
      intro ρ A w1 h
      refine wp_seq ?_
      apply seq_dag hmix h
      case hw =>
        apply Walk.cons
        · exact ok_move rfl rfl rfl
        apply Walk.cons
        · exact ok_not rfl rfl rfl rfl
        exact Walk.nil _
      case hck => kernel_rfl
      case hQ =>
        intro ρ A w1 h
        refine if_true' h rfl ?_
        apply seq_dag hmix h
        case hw =>
          apply Walk.cons
          · exact ok_assign rfl rfl rfl
          exact Walk.nil _
        case hck => kernel_rfl
        case hQ =>
          intro ρ A w1 h
          refine wp_ret ?_
          repeat (first | refine Exit.thenRet ?_ | refine Exit.blockRet ?_)
          refine h.result_tmp Try.results20 rfl ?_
          exact ⟨rfl, h.below⟩
def puR (v : Bool) (n b : Nat) (o : Int) (rt i : Nat) : St := ⟨[(0, .v (.pointer (some ⟨rt, 0, none⟩))), (2, .v (.int .i64 o)), (8, .p 8 0), (9, .v (.int .i64 (i : Nat)))], [(8, .mk (pfc v (topN n b) (b : Nat)) 31)]⟩
set_option maxRecDepth 20000 in
set_option maxHeartbeats 4000000 in
theorem rput_yes {L : List RowR} (hlen : L.length ≤ 64) (hwf : WfR L) {rt : Nat} {f : Nat → Prop} (v : Bool) (n b : Nat) (o : Int) (hn : n < 2 ^ 128) (hp' : isPfx v n (b : Nat) = true) {k : Nat} (hk : Spot L (qR v n b o) k) (w : World) (hA : (refA L).holds rt f (hp w)) :
    Calls Try.prog 20 #[.pointer (some ⟨rt, 0, none⟩), .agg (pfc v n (b : Nat)), .int .i64 o] w fun e w' =>
      (e = .returned (.int .i64 0) ∧ (∃ y, L[k]? = some y ∧ sameK y (qR v n b o)) ∧ RefOut rt f (L.take k ++ qR v n b o :: L.drop (k + 1)) w w') ∨
      (e = .returned (.int .i64 81) ∧ (∀ y, L[k]? = some y → ¬ sameK y (qR v n b o)) ∧ 64 ≤ L.length ∧ Below w.heap.size w w') ∨
      (e = .returned (.int .i64 0) ∧ (∀ y, L[k]? = some y → ¬ sameK y (qR v n b o)) ∧ L.length < 64 ∧ RefOut rt f (L.take k ++ qR v n b o :: L.drop k) w w') := by
  have hpre : ∀ w, Calls Try.prog 21 #[.agg (pfc v n (b : Nat))] w fun e w' => e = .returned (.bool true) ∧ Below w.heap.size w w' := fun w => hp' ▸ right_any v n b w
  have hqn : topN n b < 2 ^ 128 := topN_lt hn
  obtain ⟨vL, hrt, hown, hfr, hfo, _⟩ := refA_open hA
  obtain ⟨ad, cap, rfl, hform⟩ := row_gen hown
  have hcb : w.cell? ⟨rt, 0, none⟩ = some (.slice ad L.length cap) := hb_of hrt
  go_enter Try.func20, Try.ntmps20
  have h := Rep.start (N := 96) [.pointer (some ⟨rt, 0, none⟩), .agg (pfc v n (b : Nat)), .int .i64 o] [undef, undef, undef, undef, undef, undef, undef, undef, undef, undef, undef, undef, undef, undef, undef, undef, undef, undef, undef, undef, undef, undef, undef, undef, undef, undef, undef, undef, undef, undef, undef, undef, undef, undef, undef, undef, undef, undef, undef, undef, undef, undef, undef, undef, undef, undef, undef, undef, undef, undef, undef, undef, undef, undef, undef, undef, undef, undef, undef, undef, undef, undef, undef, undef, undef, undef, undef, undef, undef, undef, undef, undef, undef, undef, undef, undef, undef, undef, undef, undef, undef, undef, undef, undef, undef, undef, undef, undef, undef, undef, undef, undef, undef] w rfl
  apply seq_dag hmix h
  case hw =>
    apply Walk.cons
    · exact o_box31 4 rfl rfl rfl
    apply Walk.cons
    · exact ok_assign rfl rfl rfl
    exact Walk.nil _
  case hck => kernel_rfl
  case hQ =>
    intro ρ A w1 h
    apply seq_dag hmix h
    case hw =>
      apply Walk.cons
      · first | exact o_load31 rfl rfl rfl rfl | exact o_load31op rfl rfl rfl rfl
      apply Walk.cons
      · exact ok_call_val rfl rfl fn21 [.v _] rfl (rd := []) (fun _ w _ _ => hpre w)
      apply Walk.cons
      · exact ok_assign rfl rfl rfl
      exact Walk.nil _
    case hck => kernel_rfl
    case hQ =>
      intro ρ A w1 h
      refine wp_seq ?_
      apply seq_dag hmix h
      case hw =>
        apply Walk.cons
        · exact ok_move rfl rfl rfl
        apply Walk.cons
        · exact ok_not rfl rfl rfl rfl
        exact Walk.nil _
      case hck => kernel_rfl
      case hQ =>
        intro ρ A w1 h
        refine if_false' h rfl (wp_skip (Exit.then_normal ?_))
        apply seq_dag hmix h
        case hw =>
          apply Walk.cons
          · first | exact o_load31 rfl rfl rfl rfl | exact o_load31op rfl rfl rfl rfl
          apply Walk.cons
          · exact ok_call_val rfl rfl fn22 [.v _] rfl (rd := []) (fun _ w _ _ => rwhole_yes v n b hn hp' w)
          apply Walk.cons
          · exact o_alloc31 8 rfl rfl
          apply Walk.cons
          · exact o_store31 rfl rfl rfl rfl rfl
          exact Walk.nil _
        case hck => kernel_rfl
        case hQ =>
          intro ρ A w1 h
          apply seq_dag hmix h
          case hw =>
            apply Walk.cons
            · exact ok_assign rfl rfl rfl
            exact Walk.nil _
          case hck => kernel_rfl
          case hQ =>
            intro ρ A w1 h
            have h := h.plain (puR v n b o rt 0) ⟨rfl, rfl, rfl, rfl, trivial⟩ ⟨rfl, trivial⟩ rfl
            refine wp_seq (wp_block ?_)
            refine rep_loop_by (fun i => L.length - i) (fun i => puR v n b o rt i) (fun i => i ≤ k) 0 (Nat.zero_le _) h ?_
            clear h
            rintro i ρ A w2 hik h
            have hkl := hk.le
            refine wp_seq (wp_seq ?_)
            by_cases hi : i < k
            · obtain ⟨x, hx⟩ : ∃ x, L[i]? = some x := ⟨_, List.getElem?_eq_getElem (by omega)⟩
              obtain ⟨g, rfl, _, _⟩ := hform (by omega)
              have hcr := row_cells hown hx
              have hcp : ∀ k, k < 18 → w.cell? ⟨g, 0 + i * 19 + 0 + k, none⟩ = (pfc x.v x.n x.b)[k]? := fun k hk => by
                rw [Nat.add_zero, hcr k (by omega)]
                simpa using rwc_pfc x k hk
              have hxw := hwf x (List.mem_of_getElem? hx)
              have hah : ∀ w, Calls Try.prog 33 #[.agg (pfc x.v x.n x.b), .agg (pfc v (topN n b) (b : Nat))] w fun e w' => e = .returned (.bool true) ∧ Below w.heap.size w w' := fun w => (show aheadB x.v x.n x.b v (topN n b) (b : Nat) = true from hk.pre i x hi hx) ▸ before_any x.v x.n x.b v (topN n b) b hxw.1 hqn w
              have hil : i < L.length := by omega
              apply region_dag hmix h
              case hw =>
                apply Walk.cons
                · exact ok_move rfl rfl rfl
                apply Walk.cons
                · exact ok_move rfl rfl rfl
                apply Walk.cons
                · exact ok_nil_v rfl rfl rfl
                apply Walk.cons
                · exact ok_fld_v rfl rfl rfl fo51_0 rfl
                apply Walk.cons
                · exact ok_load_cell_ro rfl rfl rfl (fun h => h) one49 hcb
                apply Walk.cons
                · exact ok_len_ro rfl rfl rfl Try.underlying49
                apply Walk.cons
                · exact o_bin rfl rfl rfl rfl (r_lss (b := L.length) (decide_eq_true hil))
                apply Walk.cons
                · exact ok_move rfl rfl rfl
                apply Walk.cons
                · first | exact ok_skip rfl | exact ok_skip_u rfl | exact ok_move rfl rfl rfl
                apply Walk.cons
                · first | exact ok_skip rfl | exact ok_skip_u rfl | exact ok_nil_v rfl rfl rfl
                apply Walk.cons
                · first | exact ok_skip rfl | exact ok_skip_u rfl | exact ok_fld_v rfl rfl rfl fo51_0 rfl
                apply Walk.cons
                · first | exact ok_skip rfl | exact ok_skip_u rfl | exact ok_load_cell_ro rfl rfl rfl (fun h => h) one49 hcb
                apply Walk.cons
                · first | exact ok_skip rfl | exact ok_skip_u rfl | exact ok_move rfl rfl rfl
                apply Walk.cons
                · first | exact ok_skip rfl | exact ok_skip_u rfl | exact ok_index_slice_ro rfl rfl rfl rfl Try.underlying49 sz76 hil
                apply Walk.cons
                · first | exact ok_skip rfl | exact ok_skip_u rfl | exact ok_fld_v rfl rfl rfl fo76_0 rfl
                apply Walk.cons
                · first | exact ok_skip rfl | exact ok_skip_u rfl | exact ok_load_agg_ro rfl rfl rfl (fun h => h) agg31 sz31 rfl hcp
                apply Walk.cons
                · first | exact ok_skip rfl | exact ok_skip_u rfl | exact o_load31 rfl rfl rfl rfl
                apply Walk.cons
                · first | exact ok_skip rfl | exact ok_skip_u rfl | exact ok_call_val rfl rfl fn33 [.v _, .v _] rfl (rd := []) (fun _ w _ _ => hah w)
                apply Walk.cons
                · first | exact ok_pick_true rfl rfl rfl rfl | exact ok_pick_false rfl rfl rfl rfl
                exact Walk.nil _
              case hck => kernel_rfl
              case hQ =>
                intro ρ A w1 h
                refine Exit.then_normal ?_
                refine if_true' h rfl (wp_skip (Exit.then_normal ?_))
                refine wp_block ?_
                apply region_dag hmix h
                case hw =>
                  apply Walk.cons
                  · exact ok_move rfl rfl rfl
                  apply Walk.cons
                  · exact o_bin rfl rfl rfl rfl (r_addi (b := 1) (by omega))
                  apply Walk.cons
                  · exact ok_assign rfl rfl rfl
                  exact Walk.nil _
                case hck => kernel_rfl
                case hQ =>
                  intro ρ A w1 h
                  repeat (first | refine Exit.block_normal ?_ | refine Exit.then_normal ?_)
                  exact ⟨i + 1, ρ, by omega, by omega, h.plain (puR v n b o rt (i + 1)) ⟨rfl, rfl, rfl, rfl, trivial⟩ ⟨rfl, trivial⟩ rfl⟩
            · obtain rfl : i = k := by omega
              refine wp_join (fun a w' => ∃ ρ, Rep 96 ⟨(35, .v (.bool false)) :: (puR v n b o rt i).slots, (puR v n b o rt i).mem⟩ ρ { W := w } a w') ?_ ?_
              · by_cases hil : i < L.length
                · obtain ⟨x, hx⟩ : ∃ x, L[i]? = some x := ⟨_, List.getElem?_eq_getElem hil⟩
                  obtain ⟨g, rfl, _, _⟩ := hform (by omega)
                  have hcr := row_cells hown hx
                  have hcp : ∀ k, k < 18 → w.cell? ⟨g, 0 + i * 19 + 0 + k, none⟩ = (pfc x.v x.n x.b)[k]? := fun k hk => by
                    rw [Nat.add_zero, hcr k (by omega)]
                    simpa using rwc_pfc x k hk
                  have hxw := hwf x (List.mem_of_getElem? hx)
                  have hah : ∀ w, Calls Try.prog 33 #[.agg (pfc x.v x.n x.b), .agg (pfc v (topN n b) (b : Nat))] w fun e w' => e = .returned (.bool false) ∧ Below w.heap.size w w' := fun w => (show aheadB x.v x.n x.b v (topN n b) (b : Nat) = false from Bool.eq_false_iff.2 (hk.stop x hx)) ▸ before_any x.v x.n x.b v (topN n b) b hxw.1 hqn w
                  apply region_dag hmix h
                  case hw =>
                    apply Walk.cons
                    · exact ok_move rfl rfl rfl
                    apply Walk.cons
                    · exact ok_move rfl rfl rfl
                    apply Walk.cons
                    · exact ok_nil_v rfl rfl rfl
                    apply Walk.cons
                    · exact ok_fld_v rfl rfl rfl fo51_0 rfl
                    apply Walk.cons
                    · exact ok_load_cell_ro rfl rfl rfl (fun h => h) one49 hcb
                    apply Walk.cons
                    · exact ok_len_ro rfl rfl rfl Try.underlying49
                    apply Walk.cons
                    · exact o_bin rfl rfl rfl rfl (r_lss (b := L.length) (decide_eq_true hil))
                    apply Walk.cons
                    · exact ok_move rfl rfl rfl
                    apply Walk.cons
                    · first | exact ok_skip rfl | exact ok_skip_u rfl | exact ok_move rfl rfl rfl
                    apply Walk.cons
                    · first | exact ok_skip rfl | exact ok_skip_u rfl | exact ok_nil_v rfl rfl rfl
                    apply Walk.cons
                    · first | exact ok_skip rfl | exact ok_skip_u rfl | exact ok_fld_v rfl rfl rfl fo51_0 rfl
                    apply Walk.cons
                    · first | exact ok_skip rfl | exact ok_skip_u rfl | exact ok_load_cell_ro rfl rfl rfl (fun h => h) one49 hcb
                    apply Walk.cons
                    · first | exact ok_skip rfl | exact ok_skip_u rfl | exact ok_move rfl rfl rfl
                    apply Walk.cons
                    · first | exact ok_skip rfl | exact ok_skip_u rfl | exact ok_index_slice_ro rfl rfl rfl rfl Try.underlying49 sz76 hil
                    apply Walk.cons
                    · first | exact ok_skip rfl | exact ok_skip_u rfl | exact ok_fld_v rfl rfl rfl fo76_0 rfl
                    apply Walk.cons
                    · first | exact ok_skip rfl | exact ok_skip_u rfl | exact ok_load_agg_ro rfl rfl rfl (fun h => h) agg31 sz31 rfl hcp
                    apply Walk.cons
                    · first | exact ok_skip rfl | exact ok_skip_u rfl | exact o_load31 rfl rfl rfl rfl
                    apply Walk.cons
                    · first | exact ok_skip rfl | exact ok_skip_u rfl | exact ok_call_val rfl rfl fn33 [.v _, .v _] rfl (rd := []) (fun _ w _ _ => hah w)
                    apply Walk.cons
                    · first | exact ok_pick_true rfl rfl rfl rfl | exact ok_pick_false rfl rfl rfl rfl
                    exact Walk.nil _
                  case hck => kernel_rfl
                  case hQ =>
                    intro ρ A w1 h
                    refine Exit.then_normal ?_
                    exact ⟨ρ, h.plain ⟨(35, .v (.bool false)) :: (puR v n b o rt i).slots, (puR v n b o rt i).mem⟩ ⟨rfl, rfl, rfl, rfl, rfl, trivial⟩ ⟨rfl, trivial⟩ rfl⟩
                · have hcp : True := trivial
                  apply region_dag hmix h
                  case hw =>
                    apply Walk.cons
                    · exact ok_move rfl rfl rfl
                    apply Walk.cons
                    · exact ok_move rfl rfl rfl
                    apply Walk.cons
                    · exact ok_nil_v rfl rfl rfl
                    apply Walk.cons
                    · exact ok_fld_v rfl rfl rfl fo51_0 rfl
                    apply Walk.cons
                    · exact ok_load_cell_ro rfl rfl rfl (fun h => h) one49 hcb
                    apply Walk.cons
                    · exact ok_len_ro rfl rfl rfl Try.underlying49
                    apply Walk.cons
                    · exact o_bin rfl rfl rfl rfl (r_lss (b := L.length) (decide_eq_false hil))
                    apply Walk.cons
                    · exact ok_move rfl rfl rfl
                    apply Walk.cons
                    · first | exact ok_skip rfl | exact ok_skip_u rfl | exact ok_move rfl rfl rfl
                    apply Walk.cons
                    · first | exact ok_skip rfl | exact ok_skip_u rfl | exact ok_nil_v rfl rfl rfl
                    apply Walk.cons
                    · first | exact ok_skip rfl | exact ok_skip_u rfl | exact ok_fld_v rfl rfl rfl fo51_0 rfl
                    apply Walk.cons
                    · first | exact ok_skip rfl | exact ok_skip_u rfl | exact ok_load_cell_ro rfl rfl rfl (fun h => h) one49 hcb
                    apply Walk.cons
                    · first | exact ok_skip rfl | exact ok_skip_u rfl | exact ok_move rfl rfl rfl
                    apply Walk.cons
                    · first | exact ok_skip rfl | exact ok_skip_u rfl | exact ok_move rfl rfl rfl
                    apply Walk.cons
                    · first | exact ok_skip rfl | exact ok_skip_u rfl | exact ok_fld_v rfl rfl rfl fo76_0 rfl
                    apply Walk.cons
                    · first | exact ok_skip rfl | exact ok_skip_u rfl | exact ok_move rfl rfl rfl
                    apply Walk.cons
                    · first | exact ok_skip rfl | exact ok_skip_u rfl | exact o_load31 rfl rfl rfl rfl
                    apply Walk.cons
                    · first | exact ok_skip rfl | exact ok_skip_u rfl | exact ok_move rfl rfl rfl
                    apply Walk.cons
                    · first | exact ok_pick_true rfl rfl rfl rfl | exact ok_pick_false rfl rfl rfl rfl
                    exact Walk.nil _
                  case hck => kernel_rfl
                  case hQ =>
                    intro ρ A w1 h
                    refine Exit.then_normal ?_
                    exact ⟨ρ, h.plain ⟨(35, .v (.bool false)) :: (puR v n b o rt i).slots, (puR v n b o rt i).mem⟩ ⟨rfl, rfl, rfl, rfl, rfl, trivial⟩ ⟨rfl, trivial⟩ rfl⟩
              · rintro A3 w3 ⟨ρ, h⟩
                clear hik hi
                refine if_false' h rfl (wp_exit ?_)
                repeat (first | refine Exit.thenExit ?_ | refine Exit.blockExitNe (by decide) ?_)
                refine Exit.blockExit ?_
                refine Exit.then_normal ?_
                by_cases hs : ∃ y, L[i]? = some y ∧ sameK y (qR v n b o)
                · obtain ⟨x, hx, hsk⟩ := hs
                  have hil : i < L.length := (List.getElem?_eq_some_iff.1 hx).1
                  obtain ⟨g, rfl, _, _⟩ := hform (by omega)
                  have hcr := row_cells hown hx
                  have hcp : ∀ k, k < 18 → w.cell? ⟨g, 0 + i * 19 + 0 + k, none⟩ = (pfc x.v x.n x.b)[k]? := fun k hk => by
                    rw [Nat.add_zero, hcr k (by omega)]
                    simpa using rwc_pfc x k hk
                  have hxw := hwf x (List.mem_of_getElem? hx)
                  refine wp_seq ?_
                  apply seq_dag hmix h
                  case hw =>
                    apply Walk.cons
                    · exact ok_move rfl rfl rfl
                    apply Walk.cons
                    · exact ok_move rfl rfl rfl
                    apply Walk.cons
                    · exact ok_nil_v rfl rfl rfl
                    apply Walk.cons
                    · exact ok_fld_v rfl rfl rfl fo51_0 rfl
                    apply Walk.cons
                    · exact ok_load_cell_ro rfl rfl rfl (fun h => h) one49 hcb
                    apply Walk.cons
                    · exact ok_len_ro rfl rfl rfl Try.underlying49
                    apply Walk.cons
                    · exact o_bin rfl rfl rfl rfl (r_lss (b := L.length) (decide_eq_true hil))
                    apply Walk.cons
                    · exact ok_move rfl rfl rfl
                    apply Walk.cons
                    · first | exact ok_skip rfl | exact ok_skip_u rfl | exact ok_move rfl rfl rfl
                    apply Walk.cons
                    · first | exact ok_skip rfl | exact ok_skip_u rfl | exact ok_nil_v rfl rfl rfl
                    apply Walk.cons
                    · first | exact ok_skip rfl | exact ok_skip_u rfl | exact ok_fld_v rfl rfl rfl fo51_0 rfl
                    apply Walk.cons
                    · first | exact ok_skip rfl | exact ok_skip_u rfl | exact ok_load_cell_ro rfl rfl rfl (fun h => h) one49 hcb
                    apply Walk.cons
                    · first | exact ok_skip rfl | exact ok_skip_u rfl | exact ok_move rfl rfl rfl
                    apply Walk.cons
                    · first | exact ok_skip rfl | exact ok_skip_u rfl | exact ok_index_slice_ro rfl rfl rfl rfl Try.underlying49 sz76 hil
                    apply Walk.cons
                    · first | exact ok_skip rfl | exact ok_skip_u rfl | exact ok_fld_v rfl rfl rfl fo76_0 rfl
                    apply Walk.cons
                    · first | exact ok_skip rfl | exact ok_skip_u rfl | exact ok_load_agg_ro rfl rfl rfl (fun h => h) agg31 sz31 rfl hcp
                    apply Walk.cons
                    · first | exact ok_skip rfl | exact ok_skip_u rfl | exact o_load31 rfl rfl rfl rfl
                    apply Walk.cons
                    · first | exact ok_skip rfl | exact ok_skip_u rfl | exact o_eql31 rfl rfl rfl rfl hxw.1 hqn (decide_eq_true ⟨hsk.1, hsk.2.1, congrArg Int.ofNat hsk.2.2⟩)
                    apply Walk.cons
                    · first | exact ok_pick_true rfl rfl rfl rfl | exact ok_pick_false rfl rfl rfl rfl
                    exact Walk.nil _
                  case hck => kernel_rfl
                  case hQ =>
                    intro ρ A w1 h
                    refine if_true' h rfl ?_
                    have hb4 := h.lies
                    have hgrt : w.heap[rt]? = some (cobj #[.slice (some ⟨g, 0, none⟩) L.length cap] 51) := hrt
                    obtain ⟨cur, hcur, hcap⟩ : ∃ cur : Array Value, w.heap[g]? = some (cobj cur 76) ∧ i * 19 + 18 < cur.size := by
                      rcases hown.2 with ⟨h1, _⟩ | ⟨g', cap', cur, h1, _, h3, h4, _, h6, _⟩
                      · cases h1
                      · cases h1
                        refine ⟨cur, h3, ?_⟩
                        have : L.length * 19 ≤ cap * 19 := Nat.mul_le_mul_right 19 h4
                        omega
                    have hne : rt ≠ g := obj_ne hgrt hcur (by decide)
                    have hcur4 := below_obj hb4 hcur
                    have hcb4 : w1.cell? ⟨rt, 0, none⟩ = some (.slice (some ⟨g, 0, none⟩) L.length cap) := hb_of (below_obj hb4 hgrt)
                    have h := Rep.of_actA (N := 96) (D := []) w1 h.defers h.size 5 0 _ (heapA (oneH g (cobj cur 76))) (oneH_holds hcur4) [(0, .v (.pointer (some ⟨rt, 0, none⟩))), (2, .v (.int .i64 o)), (9, .v (.int .i64 (i : Nat)))] ⟨⟨_, rfl, h.slots 0 _ rfl⟩, ⟨_, rfl, h.slots 2 _ rfl⟩, ⟨_, rfl, h.slots 9 _ rfl⟩, trivial⟩
                    apply seq_dag hmix h
                    case hw =>
                      apply Walk.cons
                      · exact ok_move rfl rfl rfl
                      apply Walk.cons
                      · exact ok_nil_v rfl rfl rfl
                      apply Walk.cons
                      · exact ok_fld_v rfl rfl rfl fo51_0 rfl
                      apply Walk.cons
                      · exact ok_load_cell_ro rfl rfl rfl (fun t => hne (oneH_dom.1 t)) one49 hcb4
                      apply Walk.cons
                      · exact ok_move rfl rfl rfl
                      apply Walk.cons
                      · exact ok_move rfl rfl rfl
                      apply Walk.cons
                      · exact ok_index_slice_ro rfl rfl rfl rfl Try.underlying49 sz76 hil
                      apply Walk.cons
                      · exact ok_fld_v rfl rfl rfl fo76_1 rfl
                      apply Walk.cons
                      · exact ok_hstore rfl rfl (i := 5) rfl rfl rfl (oneH_same _ _) sz3 rfl (show 0 + i * 19 + 18 < cur.size by omega) rfl
                      exact Walk.nil _
                    case hck => kernel_rfl
                    case hQ =>
                      intro ρ A w5 h
                      apply seq_dag hmix h
                      case hw =>
                        apply Walk.cons
                        · exact ok_assign rfl rfl rfl
                        exact Walk.nil _
                      case hck => kernel_rfl
                      case hQ =>
                        intro ρ A w5 h
                        refine wp_ret ?_
                        repeat (first | refine Exit.thenRet ?_ | refine Exit.blockRet ?_)
                        refine h.result_tmp Try.results20 rfl ?_
                        have hg5 : w5.heap[g]? = some (cobj (cur.setIfInBounds (i * 19 + 18) (.int .i64 o)) 76) := by
                          have := (h.mem 5 _ rfl).2 g _ (Hp.set_same _ _ _)
                          simp only [Nat.zero_add] at this
                          exact this
                        have hr5 : w5.heap[rt]? = some (cobj #[.slice (some ⟨g, 0, none⟩) L.length cap] 51) := (h.keeps.block rt (lt_of_heap (below_obj hb4 hgrt)) (fun t => hne (oneH_dom.1 t))).trans (below_obj hb4 hgrt)
                        have hxq : ({ x with o := (qR v n b o).o } : RowR) = qR v n b o := by
                          obtain ⟨xv, xn, xb, xo⟩ := x
                          obtain ⟨e1, e2, e3⟩ := hsk
                          simp only at e1 e2 e3
                          rw [e1, e2, e3]
                        have hown5 := row_set hown hcur hx hxq hg5
                        refine .inl ⟨rfl, ⟨x, hx, hsk⟩, _, refA_shut hr5 hown5, fun k hk => ?_, Keeps.chain hb4 h.keeps fun m hm => .inl ?_⟩
                        · rcases hk with rfl | hk
                          · exact .inl hfr
                          · exact .inl (hfo k hk)
                        · rw [oneH_dom.1 hm]
                          exact hfo g rfl
                · have hno : ∀ y, L[i]? = some y → ¬ sameK y (qR v n b o) := fun y hy hs' => hs ⟨y, hy, hs'⟩
                  clear hs
                  refine wp_seq (wp_seq (wp_join (fun a w' => ∃ ρ, Rep 96 ⟨(56, .v (.bool false)) :: (puR v n b o rt i).slots, (puR v n b o rt i).mem⟩ ρ { W := w } a w') ?_ ?_))
                  · by_cases hil : i < L.length
                    · obtain ⟨x, hx⟩ : ∃ x, L[i]? = some x := ⟨_, List.getElem?_eq_getElem hil⟩
                      obtain ⟨g, rfl, _, _⟩ := hform (by omega)
                      have hcr := row_cells hown hx
                      have hcp : ∀ k, k < 18 → w.cell? ⟨g, 0 + i * 19 + 0 + k, none⟩ = (pfc x.v x.n x.b)[k]? := fun k hk => by
                        rw [Nat.add_zero, hcr k (by omega)]
                        simpa using rwc_pfc x k hk
                      have hxw := hwf x (List.mem_of_getElem? hx)
                      have hdf : decide (x.v = v ∧ x.n = topN n b ∧ ((x.b : Nat) : Int) = (b : Nat)) = false := decide_eq_false fun t => hno x hx ⟨t.1, t.2.1, Int.ofNat.inj t.2.2⟩
                      apply region_dag hmix h
                      case hw =>
                        apply Walk.cons
                        · exact ok_move rfl rfl rfl
                        apply Walk.cons
                        · exact ok_move rfl rfl rfl
                        apply Walk.cons
                        · exact ok_nil_v rfl rfl rfl
                        apply Walk.cons
                        · exact ok_fld_v rfl rfl rfl fo51_0 rfl
                        apply Walk.cons
                        · exact ok_load_cell_ro rfl rfl rfl (fun h => h) one49 hcb
                        apply Walk.cons
                        · exact ok_len_ro rfl rfl rfl Try.underlying49
                        apply Walk.cons
                        · exact o_bin rfl rfl rfl rfl (r_lss (b := L.length) (decide_eq_true hil))
                        apply Walk.cons
                        · exact ok_move rfl rfl rfl
                        apply Walk.cons
                        · first | exact ok_skip rfl | exact ok_skip_u rfl | exact ok_move rfl rfl rfl
                        apply Walk.cons
                        · first | exact ok_skip rfl | exact ok_skip_u rfl | exact ok_nil_v rfl rfl rfl
                        apply Walk.cons
                        · first | exact ok_skip rfl | exact ok_skip_u rfl | exact ok_fld_v rfl rfl rfl fo51_0 rfl
                        apply Walk.cons
                        · first | exact ok_skip rfl | exact ok_skip_u rfl | exact ok_load_cell_ro rfl rfl rfl (fun h => h) one49 hcb
                        apply Walk.cons
                        · first | exact ok_skip rfl | exact ok_skip_u rfl | exact ok_move rfl rfl rfl
                        apply Walk.cons
                        · first | exact ok_skip rfl | exact ok_skip_u rfl | exact ok_index_slice_ro rfl rfl rfl rfl Try.underlying49 sz76 hil
                        apply Walk.cons
                        · first | exact ok_skip rfl | exact ok_skip_u rfl | exact ok_fld_v rfl rfl rfl fo76_0 rfl
                        apply Walk.cons
                        · first | exact ok_skip rfl | exact ok_skip_u rfl | exact ok_load_agg_ro rfl rfl rfl (fun h => h) agg31 sz31 rfl hcp
                        apply Walk.cons
                        · first | exact ok_skip rfl | exact ok_skip_u rfl | exact o_load31 rfl rfl rfl rfl
                        apply Walk.cons
                        · first | exact ok_skip rfl | exact ok_skip_u rfl | exact o_eql31 rfl rfl rfl rfl hxw.1 hqn hdf
                        apply Walk.cons
                        · first | exact ok_pick_true rfl rfl rfl rfl | exact ok_pick_false rfl rfl rfl rfl
                        exact Walk.nil _
                      case hck => kernel_rfl
                      case hQ =>
                        intro ρ A w1 h
                        refine Exit.then_normal ?_
                        exact ⟨ρ, h.plain ⟨(56, .v (.bool false)) :: (puR v n b o rt i).slots, (puR v n b o rt i).mem⟩ ⟨rfl, rfl, rfl, rfl, rfl, trivial⟩ ⟨rfl, trivial⟩ rfl⟩
                    · have hcp : True := trivial
                      apply region_dag hmix h
                      case hw =>
                        apply Walk.cons
                        · exact ok_move rfl rfl rfl
                        apply Walk.cons
                        · exact ok_move rfl rfl rfl
                        apply Walk.cons
                        · exact ok_nil_v rfl rfl rfl
                        apply Walk.cons
                        · exact ok_fld_v rfl rfl rfl fo51_0 rfl
                        apply Walk.cons
                        · exact ok_load_cell_ro rfl rfl rfl (fun h => h) one49 hcb
                        apply Walk.cons
                        · exact ok_len_ro rfl rfl rfl Try.underlying49
                        apply Walk.cons
                        · exact o_bin rfl rfl rfl rfl (r_lss (b := L.length) (decide_eq_false hil))
                        apply Walk.cons
                        · exact ok_move rfl rfl rfl
                        apply Walk.cons
                        · first | exact ok_skip rfl | exact ok_skip_u rfl | exact ok_move rfl rfl rfl
                        apply Walk.cons
                        · first | exact ok_skip rfl | exact ok_skip_u rfl | exact ok_nil_v rfl rfl rfl
                        apply Walk.cons
                        · first | exact ok_skip rfl | exact ok_skip_u rfl | exact ok_fld_v rfl rfl rfl fo51_0 rfl
                        apply Walk.cons
                        · first | exact ok_skip rfl | exact ok_skip_u rfl | exact ok_load_cell_ro rfl rfl rfl (fun h => h) one49 hcb
                        apply Walk.cons
                        · first | exact ok_skip rfl | exact ok_skip_u rfl | exact ok_move rfl rfl rfl
                        apply Walk.cons
                        · first | exact ok_skip rfl | exact ok_skip_u rfl | exact ok_move rfl rfl rfl
                        apply Walk.cons
                        · first | exact ok_skip rfl | exact ok_skip_u rfl | exact ok_fld_v rfl rfl rfl fo76_0 rfl
                        apply Walk.cons
                        · first | exact ok_skip rfl | exact ok_skip_u rfl | exact ok_move rfl rfl rfl
                        apply Walk.cons
                        · first | exact ok_skip rfl | exact ok_skip_u rfl | exact o_load31 rfl rfl rfl rfl
                        apply Walk.cons
                        · first | exact ok_skip rfl | exact ok_skip_u rfl | exact ok_move rfl rfl rfl
                        apply Walk.cons
                        · first | exact ok_pick_true rfl rfl rfl rfl | exact ok_pick_false rfl rfl rfl rfl
                        exact Walk.nil _
                      case hck => kernel_rfl
                      case hQ =>
                        intro ρ A w1 h
                        refine Exit.then_normal ?_
                        exact ⟨ρ, h.plain ⟨(56, .v (.bool false)) :: (puR v n b o rt i).slots, (puR v n b o rt i).mem⟩ ⟨rfl, rfl, rfl, rfl, rfl, trivial⟩ ⟨rfl, trivial⟩ rfl⟩
                  · clear h A3 w3
                    rintro A3 w3 ⟨ρ, h⟩
                    refine if_false' h rfl (wp_skip (Exit.then_normal ?_))
                    refine wp_seq ?_
                    by_cases hfull : 64 ≤ L.length
                    · have hge : decide ((L.length : Int) ≥ 64) = true := decide_eq_true (by omega)
                      apply seq_dag hmix h
                      case hw =>
                        apply Walk.cons
                        · exact ok_move rfl rfl rfl
                        apply Walk.cons
                        · exact ok_nil_v rfl rfl rfl
                        apply Walk.cons
                        · exact ok_fld_v rfl rfl rfl fo51_0 rfl
                        apply Walk.cons
                        · exact ok_load_cell_ro rfl rfl rfl (fun h => h) one49 hcb
                        apply Walk.cons
                        · exact ok_len_ro rfl rfl rfl Try.underlying49
                        apply Walk.cons
                        · exact o_bin rfl rfl rfl rfl (r_geqi hge)
                        exact Walk.nil _
                      case hck => kernel_rfl
                      case hQ =>
                        intro ρ A w1 h
                        refine if_true' h rfl ?_
                        apply seq_dag hmix h
                        case hw =>
                          apply Walk.cons
                          · exact ok_assign rfl rfl rfl
                          exact Walk.nil _
                        case hck => kernel_rfl
                        case hQ =>
                          intro ρ A w1 h
                          refine wp_ret ?_
                          repeat (first | refine Exit.thenRet ?_ | refine Exit.blockRet ?_)
                          refine h.result_tmp Try.results20 rfl ?_
                          exact .inr (.inl ⟨rfl, hno, hfull, h.below⟩)
                    · have hge : decide ((L.length : Int) ≥ 64) = false := decide_eq_false (by omega)
                      apply seq_dag hmix h
                      case hw =>
                        apply Walk.cons
                        · exact ok_move rfl rfl rfl
                        apply Walk.cons
                        · exact ok_nil_v rfl rfl rfl
                        apply Walk.cons
                        · exact ok_fld_v rfl rfl rfl fo51_0 rfl
                        apply Walk.cons
                        · exact ok_load_cell_ro rfl rfl rfl (fun h => h) one49 hcb
                        apply Walk.cons
                        · exact ok_len_ro rfl rfl rfl Try.underlying49
                        apply Walk.cons
                        · exact o_bin rfl rfl rfl rfl (r_geqi hge)
                        exact Walk.nil _
                      case hck => kernel_rfl
                      case hQ =>
                        intro ρ A w1 h
                        refine if_false' h rfl (wp_skip (Exit.then_normal ?_))
                        apply seq_dag hmix h
                        case hw =>
                          apply Walk.cons
                          · exact ok_assign rfl rfl rfl
                          exact Walk.nil _
                        case hck => kernel_rfl
                        case hQ =>
                          intro ρ A w1 h
                          have hb4 := h.lies
                          have m8 := (h.mem 8 _ rfl).1
                          have o8 := (h.own 8 _ rfl (ρ.num 8) (by rw [(h.mem 8 _ rfl).2])).resolve_right fun t => t
                          obtain ⟨b8, e8⟩ : ∃ b, ρ.num 8 = b := ⟨_, rfl⟩
                          rw [e8] at m8 o8
                          have m8 : w1.heap[b8]? = some (cobj (pfc v (topN n b) (b : Nat)) 31) := m8
                          have hrt4 := below_obj hb4 hrt
                          have hown4 := row_below hown hb4
                          have h := h.rebase [(0, .v (.pointer (some ⟨rt, 0, none⟩))), (2, .v (.int .i64 o)), (8, .v (.pointer (some ⟨b8, 0, none⟩))), (9, .v (.int .i64 (i : Nat))), (10, .v (.slice none 0 0))] ⟨⟨_, rfl, _, rfl, rfl⟩, ⟨_, rfl, _, rfl, rfl⟩, ⟨_, rfl, _, rfl, by rw [← e8]; rfl⟩, ⟨_, rfl, _, rfl, rfl⟩, ⟨_, rfl, _, rfl, rfl⟩, trivial⟩
                          clear e8
                          refine seq_list ?_
                          refine wpl_step h rfl (ok_move rfl rfl rfl) rfl rfl rfl rfl ?_
                          intro ρ A w5 h
                          refine wpl_step h rfl (ok_move rfl rfl rfl) rfl rfl rfl rfl ?_
                          intro ρ A w5 h
                          refine wpl_step h rfl (ok_nil_v rfl rfl rfl) rfl rfl rfl rfl ?_
                          intro ρ A w5 h
                          refine wpl_step h rfl (ok_fld_v rfl rfl rfl fo51_0 rfl) rfl rfl rfl rfl ?_
                          intro ρ A w5 h
                          refine wpl_step h rfl (ok_load_cell_ro rfl rfl rfl (fun h => h) one49 (hb_of hrt4)) rfl rfl rfl rfl ?_
                          intro ρ A w5 h
                          refine wpl_step h rfl (ok_move rfl rfl rfl) rfl rfl rfl rfl ?_
                          intro ρ A w5 h
                          refine wpl_step h rfl (o_sliceH rfl rfl rfl rfl (src_take hown4 hkl).1) rfl rfl rfl rfl ?_
                          intro ρ A w5 h
                          have hb5 := hb4.trans (h.lies.mono hb4.size)
                          have hs5 := row_below hown4 h.lies
                          have m8 := below_obj h.lies m8
                          have hrt5 := below_obj h.lies hrt4
                          have hlk : (L.take i).length = i := by rw [List.length_take, Nat.min_eq_left hkl]
                          refine wpl_app76 (L1 := []) rfl rfl (h.eval_tmp (t := 71) rfl) (World.ownsRow_nil _ w.heap.size _ _) (h.eval_tmp (t := 77) rfl) (src_take hs5 hkl).2 (by simp; omega) hb5.size ?_
                          intro v1 w6 hown6 hg6
                          have hb6 := below_grown hb5 hg6 (fun k hk => by simp [Value.ownBlock] at hk)
                          have m8 := grown_obj hg6 m8 (by simp [Value.ownBlock])
                          have hrt6 := grown_obj hg6 hrt5 (by simp [Value.ownBlock])
                          have hs6 := row_below hown hb6
                          have h := (h.rebase [(0, .v (.pointer (some ⟨rt, 0, none⟩))), (2, .v (.int .i64 o)), (8, .v (.pointer (some ⟨b8, 0, none⟩))), (9, .v (.int .i64 (i : Nat)))] ⟨⟨_, rfl, _, rfl, rfl⟩, ⟨_, rfl, _, rfl, rfl⟩, ⟨_, rfl, _, rfl, rfl⟩, ⟨_, rfl, _, rfl, rfl⟩, trivial⟩).freed (d := 78) (by decide) v1 w6
                          refine wpl_step h rfl (ok_assign rfl rfl rfl) rfl rfl rfl rfl ?_
                          intro ρ A w7 h
                          refine wpList_nil ?_
                          refine Exit.then_normal ?_
                          refine seq_list ?_
                          have hc8 : ∀ k, k < 18 → w6.cell? ⟨b8, 0 + k, none⟩ = (pfc v (topN n b) (b : Nat))[k]? := fun k hk => by rw [cell_of_obj (show hp w6 b8 = _ from m8), Nat.zero_add]
                          refine wpl_step h rfl (ok_move rfl rfl rfl) rfl rfl rfl rfl ?_
                          intro ρ A w7 h
                          refine wpl_step h rfl (ok_load_agg_ro rfl rfl rfl (fun h => h) agg31 sz31 rfl hc8) rfl rfl rfl rfl ?_
                          intro ρ A w7 h
                          refine wpl_step h rfl (ok_move rfl rfl rfl) rfl rfl rfl rfl ?_
                          intro ρ A w7 h
                          refine wpl_step h rfl (o_built rfl rfl (by kernel_rfl) (v := .agg (rwc (qR v n b o))) (fun w => by kernel_rfl)) rfl rfl rfl rfl ?_
                          intro ρ A w7 h
                          refine wpl_step h rfl (o_lit76 83 rfl rfl rfl) rfl rfl rfl rfl ?_
                          intro ρ A w7 h
                          have hb7 := hb6.trans (h.lies.mono hb6.size)
                          have hown7 := row_below hown6 h.lies
                          have m8 := below_obj h.lies m8
                          have hlit := (h.mem 83 _ rfl).1
                          refine wpl_app76 rfl rfl (h.eval_tmp (t := 79) rfl) hown7 (h.eval_tmp (t := 83) rfl) (src_one hlit) (by simp; omega) hb7.size ?_
                          intro v2 w8 hown8 hg8
                          have hb8 := below_grown hb7 hg8 (fun k hk => row_base hown7 hk)
                          have hrt8 := below_obj hb8 hrt
                          have hs8 := row_below hown hb8
                          have h := (h.rebase [(0, .v (.pointer (some ⟨rt, 0, none⟩))), (9, .v (.int .i64 (i : Nat)))] ⟨⟨_, rfl, _, rfl, rfl⟩, ⟨_, rfl, _, rfl, rfl⟩, trivial⟩).freed (d := 84) (by decide) v2 w8
                          refine wpl_step h rfl (ok_assign rfl rfl rfl) rfl rfl rfl rfl ?_
                          intro ρ A w9 h
                          refine wpList_nil ?_
                          refine Exit.then_normal ?_
                          refine seq_list ?_
                          refine wpl_step h rfl (ok_move rfl rfl rfl) rfl rfl rfl rfl ?_
                          intro ρ A w9 h
                          refine wpl_step h rfl (ok_move rfl rfl rfl) rfl rfl rfl rfl ?_
                          intro ρ A w9 h
                          refine wpl_step h rfl (ok_move rfl rfl rfl) rfl rfl rfl rfl ?_
                          intro ρ A w9 h
                          refine wpl_step h rfl (ok_nil_v rfl rfl rfl) rfl rfl rfl rfl ?_
                          intro ρ A w9 h
                          refine wpl_step h rfl (ok_fld_v rfl rfl rfl fo51_0 rfl) rfl rfl rfl rfl ?_
                          intro ρ A w9 h
                          refine wpl_step h rfl (ok_load_cell_ro rfl rfl rfl (fun h => h) one49 (hb_of hrt8)) rfl rfl rfl rfl ?_
                          intro ρ A w9 h
                          refine wpl_step h rfl (ok_move rfl rfl rfl) rfl rfl rfl rfl ?_
                          intro ρ A w9 h
                          refine wpl_step h rfl (o_sliceL rfl rfl rfl rfl hkl) rfl rfl rfl rfl ?_
                          intro ρ A w9 h
                          have hb9 := hb8.trans (h.lies.mono hb8.size)
                          have hown9 := row_below hown8 h.lies
                          have hs9 := row_below hs8 h.lies
                          refine wpl_app76 rfl rfl (h.eval_tmp (t := 86) rfl) hown9 (h.eval_tmp (t := 92) rfl) (src_drop hs9 hkl) (by simp; omega) hb9.size ?_
                          intro v3 w10 hown10 hg10
                          have hb10 := below_grown hb9 hg10 (fun k hk => row_base hown9 hk)
                          have hrt10 := below_obj hb10 hrt
                          have hs85 := h.slots 85 _ rfl
                          have hsz := h.size
                          have h := Rep.of_act1 (N := 96) (a := A.put (some 93) v3) (D := []) w10 (by simpa [Act.put] using h.defers) (by simpa [Act.put] using hsz) 5 rt hrt10 [(85, .p 5 0), (93, .v v3)] ⟨.inr ⟨0, rfl, by rw [get_put]; simpa using hs85⟩, .inl ⟨_, rfl, by rw [get_put]; simp [hsz]⟩, trivial⟩
                          refine wpl_stepN h rfl (ok_nil rfl rfl rfl) rfl rfl rfl rfl ?_
                          intro ρ A w11 ha1 h
                          refine wpl_stepN h rfl (ok_fld rfl rfl rfl fo51_0 rfl) rfl rfl rfl rfl ?_
                          intro ρ A w11 ha2 h
                          refine wpl_stepN h rfl (ok_store_cell (cs := #[v3]) rfl rfl rfl rfl rfl sz49 (row_slice hown10) (Nat.zero_lt_one) rfl) rfl rfl rfl rfl ?_
                          intro ρ A w11 ha3 h
                          refine wpList_nil ?_
                          refine Exit.then_normal ?_
                          have hnum : ρ.num 5 = rt := (ha3 5).trans ((ha2 5).trans (ha1 5))
                          have hbox := (h.mem 5 _ rfl).1
                          rw [hnum] at hbox
                          have hbox : w11.heap[rt]? = some (cobj #[v3] 51) := hbox
                          have hown11 := row_keep hown10 (fun g hg => h.keeps.block g (row_lt hown10 hg) (fun e => row_ne hown10 hrt10 (by decide) (by rw [← (show g = rt from e)]; exact hg)))
                          have hk11 : Keeps { W := w, M := f } w11 := Keeps.chain hb10 h.keeps fun m hm => .inl (by rw [show m = rt from hm]; exact hfr)
                          have h := h.rebase [] trivial
                          have hend : [] ++ L.take i ++ [qR v n b o] ++ L.drop i = L.take i ++ qR v n b o :: L.drop i := by simp
                          rw [hend] at hown11
                          apply seq_dag hmix h
                          case hw =>
                            apply Walk.cons
                            · exact ok_assign rfl rfl rfl
                            exact Walk.nil _
                          case hck => kernel_rfl
                          case hQ =>
                            intro ρ A w12 h
                            refine wp_ret ?_
                            repeat (first | refine Exit.thenRet ?_ | refine Exit.blockRet ?_)
                            refine h.result_tmp Try.results20 rfl ?_
                            have hl := h.lies
                            refine .inr (.inr ⟨rfl, hno, by omega, _, refA_shut (below_obj hl hbox) (row_below hown11 hl), fun k hk => ?_, ?_⟩)
                            · rcases hk with rfl | hk
                              · exact .inl hfr
                              · exact .inr (row_base hown11 hk)
                            · exact ⟨hl.os.trans hk11.os, hl.tape.trans hk11.tape, hl.output.trans hk11.output, Nat.le_trans hk11.size hl.size, fun k hk hM => (hl.block k (Nat.lt_of_lt_of_le hk hk11.size)).trans (hk11.block k hk hM)⟩
end Go.Proofs.Ytnppgaohfegloaa
