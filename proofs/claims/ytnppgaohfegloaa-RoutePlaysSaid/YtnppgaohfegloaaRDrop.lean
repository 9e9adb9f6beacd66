/-
  The walk of the document's Drop.
-/
import Derived.Test.YtnppgaohfegloaaRPut
namespace Go.Proofs.Ytnppgaohfegloaa
open Go.RowKit

def rdR (c : Bool) (v : Bool) (n : Nat) (b : Int) (rt i : Nat) : St := ⟨[(0, .v (.pointer (some ⟨rt, 0, none⟩))), (3, .p 3 0), (6, .v (.bool c)), (7, .v (.int .i64 (i : Nat)))], [(3, .mk (pfc v n b) 31)]⟩
set_option maxRecDepth 20000 in
set_option maxHeartbeats 4000000 in
theorem rdrop_bad {L : List RowR} {rt : Nat} {f : Nat → Prop} (v : Bool) (n : Nat) (b : Int) (hp' : isPfx v n b = false) (w : World) (hA : (refA L).holds rt f (hp w)) :
    Calls Try.prog 18 #[.pointer (some ⟨rt, 0, none⟩), .agg (pfc v n b)] w fun e w' => e = .returned (.tuple #[.int .i64 0, .bool false]) ∧ Below w.heap.size w w' := by
  have hpre : ∀ w, Calls Try.prog 21 #[.agg (pfc v n b)] w fun e w' => e = .returned (.bool false) ∧ Below w.heap.size w w' := fun w => hp' ▸ right_any v n b w
  obtain ⟨vL, hrt, hown, hfr, hfo, _⟩ := refA_open hA
  obtain ⟨ad, cap, rfl, hform⟩ := row_gen hown
  have hcb : w.cell? ⟨rt, 0, none⟩ = some (.slice ad L.length cap) := hb_of hrt
  go_enter Try.func18, Try.ntmps18
  have h := Rep.start (N := 64) [.pointer (some ⟨rt, 0, none⟩), .agg (pfc v n b)] [undef, undef, undef, undef, undef, undef, undef, undef, undef, undef, undef, undef, undef, undef, undef, undef, undef, undef, undef, undef, undef, undef, undef, undef, undef, undef, undef, undef, undef, undef, undef, undef, undef, undef, undef, undef, undef, undef, undef, undef, undef, undef, undef, undef, undef, undef, undef, undef, undef, undef, undef, undef, undef, undef, undef, undef, undef, undef, undef, undef, undef, undef] w rfl
  apply seq_dag hmix h
  case hw =>
    apply Walk.cons
    · exact o_box31 3 rfl rfl rfl
    apply Walk.cons
    · exact ok_assign rfl rfl rfl
    apply Walk.cons
    · exact ok_assign rfl rfl rfl
    exact Walk.nil _
  case hck => kernel_rfl
  case hQ =>
    intro ρ A w1 h
    apply seq_dag hmix h
    case hw =>
      apply Walk.cons
      · first | exact o_load31 rfl rfl rfl rfl | exact o_load31op rfl rfl rfl rfl
      apply Walk.cons
      · exact ok_call_val rfl rfl fn21 [.v _] rfl (rd := []) (fun _ w _ _ => hpre w)
      apply Walk.cons
      · exact ok_assign rfl rfl rfl
      exact Walk.nil _
    case hck => kernel_rfl
    case hQ =>
      intro ρ A w1 h
      refine wp_seq ?_
      apply seq_dag hmix h
      case hw =>
        apply Walk.cons
        · exact ok_assign rfl rfl rfl
        exact Walk.nil _
      case hck => kernel_rfl
      case hQ =>
        intro ρ A w1 h
        have h := h.plain (rdR false v n b rt 0) ⟨rfl, rfl, rfl, rfl, trivial⟩ ⟨rfl, trivial⟩ rfl
        refine wp_block ?_
        refine rep_loop_by (fun i => i) (fun i => rdR false v n b rt i) (fun i => i = 0) 0 rfl h ?_
        clear h
        rintro i ρ A w2 hi0 h
        subst hi0
        refine wp_seq (wp_seq (wp_join (fun a w' => ∃ ρ, Rep 64 ⟨(21, .v (.bool false)) :: (rdR false v n b rt 0).slots, (rdR false v n b rt 0).mem⟩ ρ { W := w } a w') ?_ ?_))
        · by_cases hil : 0 < L.length
          · have ht : True := trivial
            apply region_dag hmix h
            case hw =>
              apply Walk.cons
              · exact ok_move rfl rfl rfl
              apply Walk.cons
              · exact ok_move rfl rfl rfl
              apply Walk.cons
              · exact ok_nil_v rfl rfl rfl
              apply Walk.cons
              · exact ok_fld_v rfl rfl rfl fo51_0 rfl
              apply Walk.cons
              · exact ok_load_cell_ro rfl rfl rfl (fun h => h) one49 hcb
              apply Walk.cons
              · exact ok_len_ro rfl rfl rfl Try.underlying49
              apply Walk.cons
              · exact o_bin rfl rfl rfl rfl (r_lss (b := L.length) (decide_eq_true hil))
              apply Walk.cons
              · exact ok_move rfl rfl rfl
              apply Walk.cons
              · first | exact ok_skip rfl | exact ok_skip_u rfl | exact ok_move rfl rfl rfl
              apply Walk.cons
              · first | exact ok_pick_true rfl rfl rfl rfl | exact ok_pick_false rfl rfl rfl rfl
              exact Walk.nil _
            case hck => kernel_rfl
            case hQ =>
              intro ρ A w1 h
              refine Exit.then_normal ?_
              exact ⟨ρ, h.plain ⟨(21, .v (.bool false)) :: (rdR false v n b rt 0).slots, (rdR false v n b rt 0).mem⟩ ⟨rfl, rfl, rfl, rfl, rfl, trivial⟩ ⟨rfl, trivial⟩ rfl⟩
          · have ht : True := trivial
            apply region_dag hmix h
            case hw =>
              apply Walk.cons
              · exact ok_move rfl rfl rfl
              apply Walk.cons
              · exact ok_move rfl rfl rfl
              apply Walk.cons
              · exact ok_nil_v rfl rfl rfl
              apply Walk.cons
              · exact ok_fld_v rfl rfl rfl fo51_0 rfl
              apply Walk.cons
              · exact ok_load_cell_ro rfl rfl rfl (fun h => h) one49 hcb
              apply Walk.cons
              · exact ok_len_ro rfl rfl rfl Try.underlying49
              apply Walk.cons
              · exact o_bin rfl rfl rfl rfl (r_lss (b := L.length) (decide_eq_false hil))
              apply Walk.cons
              · exact ok_move rfl rfl rfl
              apply Walk.cons
              · first | exact ok_skip rfl | exact ok_skip_u rfl | exact ok_move rfl rfl rfl
              apply Walk.cons
              · first | exact ok_pick_true rfl rfl rfl rfl | exact ok_pick_false rfl rfl rfl rfl
              exact Walk.nil _
            case hck => kernel_rfl
            case hQ =>
              intro ρ A w1 h
              refine Exit.then_normal ?_
              exact ⟨ρ, h.plain ⟨(21, .v (.bool false)) :: (rdR false v n b rt 0).slots, (rdR false v n b rt 0).mem⟩ ⟨rfl, rfl, rfl, rfl, rfl, trivial⟩ ⟨rfl, trivial⟩ rfl⟩
        · rintro A3 w3 ⟨ρ, h⟩
          refine if_false' h rfl (wp_exit ?_)
          repeat (first | refine Exit.thenExit ?_ | refine Exit.blockExitNe (by decide) ?_)
          refine Exit.blockExit ?_
          refine Exit.then_normal ?_
          apply seq_dag hmix h
          case hw =>
            apply Walk.cons
            · exact ok_assign rfl rfl rfl
            apply Walk.cons
            · exact ok_assign rfl rfl rfl
            exact Walk.nil _
          case hck => kernel_rfl
          case hQ =>
            intro ρ A w1 h
            refine wp_ret ?_
            repeat (first | refine Exit.thenRet ?_ | refine Exit.blockRet ?_)
            refine h.result_tmp2 Try.results18 rfl rfl ?_
            exact ⟨rfl, h.below⟩
set_option maxRecDepth 20000 in
set_option maxHeartbeats 4000000 in
theorem rdrop_yes {L : List RowR} (hlen : L.length ≤ 64) (hwf : WfR L) {rt : Nat} {f : Nat → Prop} (v : Bool) (n b : Nat) (hn : n < 2 ^ 128) (hp' : isPfx v n (b : Nat) = true) {k : Nat} (hkl : k ≤ L.length) (hbe : ∀ j y, j < k → L[j]? = some y → ¬ sameK y (qR v n b 0)) (hat : ∀ y, L[k]? = some y → sameK y (qR v n b 0)) (w : World) (hA : (refA L).holds rt f (hp w)) :
    Calls Try.prog 18 #[.pointer (some ⟨rt, 0, none⟩), .agg (pfc v n (b : Nat))] w fun e w' =>
      (L.length = k ∧ e = .returned (.tuple #[.int .i64 0, .bool false]) ∧ Below w.heap.size w w') ∨
      (∃ y, L[k]? = some y ∧ e = .returned (.tuple #[.int .i64 y.o, .bool true]) ∧ RefOut rt f (L.take k ++ L.drop (k + 1)) w w') := by
  have hpre : ∀ w, Calls Try.prog 21 #[.agg (pfc v n (b : Nat))] w fun e w' => e = .returned (.bool true) ∧ Below w.heap.size w w' := fun w => hp' ▸ right_any v n b w
  have hqn : topN n b < 2 ^ 128 := topN_lt hn
  obtain ⟨vL, hrt, hown, hfr, hfo, _⟩ := refA_open hA
  obtain ⟨ad, cap, rfl, hform⟩ := row_gen hown
  have hcb : w.cell? ⟨rt, 0, none⟩ = some (.slice ad L.length cap) := hb_of hrt
  go_enter Try.func18, Try.ntmps18
  have h := Rep.start (N := 64) [.pointer (some ⟨rt, 0, none⟩), .agg (pfc v n (b : Nat))] [undef, undef, undef, undef, undef, undef, undef, undef, undef, undef, undef, undef, undef, undef, undef, undef, undef, undef, undef, undef, undef, undef, undef, undef, undef, undef, undef, undef, undef, undef, undef, undef, undef, undef, undef, undef, undef, undef, undef, undef, undef, undef, undef, undef, undef, undef, undef, undef, undef, undef, undef, undef, undef, undef, undef, undef, undef, undef, undef, undef, undef, undef] w rfl
  apply seq_dag hmix h
  case hw =>
    apply Walk.cons
    · exact o_box31 3 rfl rfl rfl
    apply Walk.cons
    · exact ok_assign rfl rfl rfl
    apply Walk.cons
    · exact ok_assign rfl rfl rfl
    exact Walk.nil _
  case hck => kernel_rfl
  case hQ =>
    intro ρ A w1 h
    apply seq_dag hmix h
    case hw =>
      apply Walk.cons
      · first | exact o_load31 rfl rfl rfl rfl | exact o_load31op rfl rfl rfl rfl
      apply Walk.cons
      · exact ok_call_val rfl rfl fn21 [.v _] rfl (rd := []) (fun _ w _ _ => hpre w)
      apply Walk.cons
      · exact ok_assign rfl rfl rfl
      exact Walk.nil _
    case hck => kernel_rfl
    case hQ =>
      intro ρ A w1 h
      refine wp_seq ?_
      apply seq_dag hmix h
      case hw =>
        apply Walk.cons
        · exact ok_assign rfl rfl rfl
        exact Walk.nil _
      case hck => kernel_rfl
      case hQ =>
        intro ρ A w1 h
        have h := h.plain (rdR true v n b rt 0) ⟨rfl, rfl, rfl, rfl, trivial⟩ ⟨rfl, trivial⟩ rfl
        refine wp_block ?_
        refine rep_loop_by (fun i => L.length - i) (fun i => rdR true v n b rt i) (fun i => i ≤ k) 0 (Nat.zero_le _) h ?_
        clear h
        rintro i ρ A w2 hik h
        refine wp_seq ?_
        by_cases hil : i < L.length
        · obtain ⟨x, hx⟩ : ∃ x, L[i]? = some x := ⟨_, List.getElem?_eq_getElem hil⟩
          obtain ⟨g, rfl, _, _⟩ := hform (by omega)
          have hcr := row_cells hown hx
          have hcp : ∀ k, k < 18 → w.cell? ⟨g, 0 + i * 19 + 0 + k, none⟩ = (pfc x.v x.n x.b)[k]? := fun k hk => by
            rw [Nat.add_zero, hcr k (by omega)]
            simpa using rwc_pfc x k hk
          have hco : w.cell? ⟨g, 0 + i * 19 + 18, none⟩ = some (.int .i64 x.o) := (hcr 18 (by decide)).trans rfl
          have hxw := hwf x (List.mem_of_getElem? hx)
          apply seq_dag hmix h
          case hw =>
            apply Walk.cons
            · exact ok_move rfl rfl rfl
            apply Walk.cons
            · exact ok_move rfl rfl rfl
            apply Walk.cons
            · exact ok_nil_v rfl rfl rfl
            apply Walk.cons
            · exact ok_fld_v rfl rfl rfl fo51_0 rfl
            apply Walk.cons
            · exact ok_load_cell_ro rfl rfl rfl (fun h => h) one49 hcb
            apply Walk.cons
            · exact ok_len_ro rfl rfl rfl Try.underlying49
            apply Walk.cons
            · exact o_bin rfl rfl rfl rfl (r_lss (b := L.length) (decide_eq_true hil))
            apply Walk.cons
            · exact ok_move rfl rfl rfl
            apply Walk.cons
            · first | exact ok_skip rfl | exact ok_skip_u rfl | exact ok_move rfl rfl rfl
            apply Walk.cons
            · first | exact ok_pick_true rfl rfl rfl rfl | exact ok_pick_false rfl rfl rfl rfl
            exact Walk.nil _
          case hck => kernel_rfl
          case hQ =>
            intro ρ A w1 h
            refine if_true' h rfl (wp_skip ?_)
            refine Exit.then_normal ?_
            refine wp_seq (wp_block ?_)
            by_cases hi : i < k
            · have hdf : decide (x.v = v ∧ x.n = topN n b ∧ ((x.b : Nat) : Int) = (b : Nat)) = false := decide_eq_false fun t => hbe i x hi hx ⟨t.1, t.2.1, Int.ofNat.inj t.2.2⟩
              apply seq_dag hmix h
              case hw =>
                apply Walk.cons
                · exact ok_move rfl rfl rfl
                apply Walk.cons
                · exact ok_nil_v rfl rfl rfl
                apply Walk.cons
                · exact ok_fld_v rfl rfl rfl fo51_0 rfl
                apply Walk.cons
                · exact ok_load_cell_ro rfl rfl rfl (fun h => h) one49 hcb
                apply Walk.cons
                · exact ok_move rfl rfl rfl
                apply Walk.cons
                · exact ok_index_slice_ro rfl rfl rfl rfl Try.underlying49 sz76 hil
                apply Walk.cons
                · exact ok_fld_v rfl rfl rfl fo76_0 rfl
                apply Walk.cons
                · exact ok_load_agg_ro rfl rfl rfl (fun h => h) agg31 sz31 rfl hcp
                apply Walk.cons
                · exact o_load31 rfl rfl rfl rfl
                apply Walk.cons
                · exact ok_call_val rfl rfl fn22 [.v _] rfl (rd := []) (fun _ w _ _ => rwhole_yes v n b hn hp' w)
                apply Walk.cons
                · exact o_eql31 rfl rfl rfl rfl hxw.1 hqn hdf
                exact Walk.nil _
              case hck => kernel_rfl
              case hQ =>
                intro ρ A w1 h
                refine if_false' h rfl (wp_skip ?_)
                repeat (first | refine Exit.block_normal ?_ | refine Exit.then_normal ?_)
                apply region_dag hmix h
                case hw =>
                  apply Walk.cons
                  · exact ok_move rfl rfl rfl
                  apply Walk.cons
                  · exact o_bin rfl rfl rfl rfl (r_addi (b := 1) (by omega))
                  apply Walk.cons
                  · exact ok_assign rfl rfl rfl
                  exact Walk.nil _
                case hck => kernel_rfl
                case hQ =>
                  intro ρ A w1 h
                  exact ⟨i + 1, ρ, by omega, by omega, h.plain (rdR true v n b rt (i + 1)) ⟨rfl, rfl, rfl, rfl, trivial⟩ ⟨rfl, trivial⟩ rfl⟩
            · obtain rfl : i = k := by omega
              have hsk := hat x hx
              apply seq_dag hmix h
              case hw =>
                apply Walk.cons
                · exact ok_move rfl rfl rfl
                apply Walk.cons
                · exact ok_nil_v rfl rfl rfl
                apply Walk.cons
                · exact ok_fld_v rfl rfl rfl fo51_0 rfl
                apply Walk.cons
                · exact ok_load_cell_ro rfl rfl rfl (fun h => h) one49 hcb
                apply Walk.cons
                · exact ok_move rfl rfl rfl
                apply Walk.cons
                · exact ok_index_slice_ro rfl rfl rfl rfl Try.underlying49 sz76 hil
                apply Walk.cons
                · exact ok_fld_v rfl rfl rfl fo76_0 rfl
                apply Walk.cons
                · exact ok_load_agg_ro rfl rfl rfl (fun h => h) agg31 sz31 rfl hcp
                apply Walk.cons
                · exact o_load31 rfl rfl rfl rfl
                apply Walk.cons
                · exact ok_call_val rfl rfl fn22 [.v _] rfl (rd := []) (fun _ w _ _ => rwhole_yes v n b hn hp' w)
                apply Walk.cons
                · exact o_eql31 rfl rfl rfl rfl hxw.1 hqn (decide_eq_true ⟨hsk.1, hsk.2.1, congrArg Int.ofNat hsk.2.2⟩)
                exact Walk.nil _
              case hck => kernel_rfl
              case hQ =>
                intro ρ A w1 h
                refine if_true' h rfl ?_
                apply seq_dag hmix h
                case hw =>
                  apply Walk.cons
                  · exact ok_move rfl rfl rfl
                  apply Walk.cons
                  · exact ok_nil_v rfl rfl rfl
                  apply Walk.cons
                  · exact ok_fld_v rfl rfl rfl fo51_0 rfl
                  apply Walk.cons
                  · exact ok_load_cell_ro rfl rfl rfl (fun h => h) one49 hcb
                  apply Walk.cons
                  · exact ok_move rfl rfl rfl
                  apply Walk.cons
                  · exact ok_index_slice_ro rfl rfl rfl rfl Try.underlying49 sz76 hil
                  apply Walk.cons
                  · exact ok_fld_v rfl rfl rfl fo76_1 rfl
                  apply Walk.cons
                  · exact ok_load_cell_ro rfl rfl rfl (fun h => h) one3 hco
                  apply Walk.cons
                  · exact ok_assign rfl rfl rfl
                  exact Walk.nil _
                case hck => kernel_rfl
                case hQ =>
                  intro ρ A w1 h
                  apply seq_dag hmix h
                  case hw =>
                    apply Walk.cons
                    · exact ok_assign rfl rfl rfl
                    exact Walk.nil _
                  case hck => kernel_rfl
                  case hQ =>
                    intro ρ A w1 h
                    have hb4 := h.lies
                    have hrt4 := below_obj hb4 hrt
                    have hown4 := row_below hown hb4
                    have h := h.rebase [(0, .v (.pointer (some ⟨rt, 0, none⟩))), (7, .v (.int .i64 (i : Nat))), (8, .v (.int .i64 x.o)), (9, .v (.slice none 0 0))] ⟨⟨_, rfl, _, rfl, rfl⟩, ⟨_, rfl, _, rfl, rfl⟩, ⟨_, rfl, _, rfl, rfl⟩, ⟨_, rfl, _, rfl, rfl⟩, trivial⟩
                    refine seq_list ?_
                    refine wpl_step h rfl (ok_move rfl rfl rfl) rfl rfl rfl rfl ?_
                    intro ρ A w5 h
                    refine wpl_step h rfl (ok_move rfl rfl rfl) rfl rfl rfl rfl ?_
                    intro ρ A w5 h
                    refine wpl_step h rfl (ok_nil_v rfl rfl rfl) rfl rfl rfl rfl ?_
                    intro ρ A w5 h
                    refine wpl_step h rfl (ok_fld_v rfl rfl rfl fo51_0 rfl) rfl rfl rfl rfl ?_
                    intro ρ A w5 h
                    refine wpl_step h rfl (ok_load_cell_ro rfl rfl rfl (fun h => h) one49 (hb_of hrt4)) rfl rfl rfl rfl ?_
                    intro ρ A w5 h
                    refine wpl_step h rfl (ok_move rfl rfl rfl) rfl rfl rfl rfl ?_
                    intro ρ A w5 h
                    refine wpl_step h rfl (o_sliceH rfl rfl rfl rfl (src_take hown4 hkl).1) rfl rfl rfl rfl ?_
                    intro ρ A w5 h
                    have hb5 := hb4.trans (h.lies.mono hb4.size)
                    have hs5 := row_below hown4 h.lies
                    have hrt5 := below_obj h.lies hrt4
                    have hlk : (L.take i).length = i := by rw [List.length_take, Nat.min_eq_left hkl]
                    refine wpl_app76 (L1 := []) rfl rfl (h.eval_tmp (t := 43) rfl) (World.ownsRow_nil _ w.heap.size _ _) (h.eval_tmp (t := 49) rfl) (src_take hs5 hkl).2 (by simp; omega) hb5.size ?_
                    intro v1 w6 hown6 hg6
                    have hb6 := below_grown hb5 hg6 (fun k hk => by simp [Value.ownBlock] at hk)
                    have hrt6 := grown_obj hg6 hrt5 (by simp [Value.ownBlock])
                    have hs6 := row_below hown hb6
                    have h := (h.rebase [(0, .v (.pointer (some ⟨rt, 0, none⟩))), (7, .v (.int .i64 (i : Nat))), (8, .v (.int .i64 x.o))] ⟨⟨_, rfl, _, rfl, rfl⟩, ⟨_, rfl, _, rfl, rfl⟩, ⟨_, rfl, _, rfl, rfl⟩, trivial⟩).freed (d := 50) (by decide) v1 w6
                    refine wpl_step h rfl (ok_assign rfl rfl rfl) rfl rfl rfl rfl ?_
                    intro ρ A w7 h
                    refine wpList_nil ?_
                    refine Exit.then_normal ?_
                    refine seq_list ?_
                    refine wpl_step h rfl (ok_move rfl rfl rfl) rfl rfl rfl rfl ?_
                    intro ρ A w9 h
                    refine wpl_step h rfl (ok_move rfl rfl rfl) rfl rfl rfl rfl ?_
                    intro ρ A w9 h
                    refine wpl_step h rfl (ok_move rfl rfl rfl) rfl rfl rfl rfl ?_
                    intro ρ A w9 h
                    refine wpl_step h rfl (ok_nil_v rfl rfl rfl) rfl rfl rfl rfl ?_
                    intro ρ A w9 h
                    refine wpl_step h rfl (ok_fld_v rfl rfl rfl fo51_0 rfl) rfl rfl rfl rfl ?_
                    intro ρ A w9 h
                    refine wpl_step h rfl (ok_load_cell_ro rfl rfl rfl (fun h => h) one49 (hb_of hrt6)) rfl rfl rfl rfl ?_
                    intro ρ A w9 h
                    refine wpl_step h rfl (ok_move rfl rfl rfl) rfl rfl rfl rfl ?_
                    intro ρ A w9 h
                    refine wpl_step h rfl (o_bin rfl rfl rfl rfl (r_addi (b := 1) (by omega))) rfl rfl rfl rfl ?_
                    intro ρ A w9 h
                    refine wpl_step h rfl (o_sliceL rfl rfl rfl rfl (show i + 1 ≤ L.length by omega)) rfl rfl rfl rfl ?_
                    intro ρ A w9 h
                    have hb9 := hb6.trans (h.lies.mono hb6.size)
                    have hown9 := row_below hown6 h.lies
                    have hs9 := row_below hs6 h.lies
                    refine wpl_app76 rfl rfl (h.eval_tmp (t := 52) rfl) hown9 (h.eval_tmp (t := 59) rfl) (src_drop hs9 (show i + 1 ≤ L.length by omega)) (by simp; omega) hb9.size ?_
                    intro v3 w10 hown10 hg10
                    have hb10 := below_grown hb9 hg10 (fun k hk => row_base hown9 hk)
                    have hrt10 := below_obj hb10 hrt
                    have hs51 := h.slots 51 _ rfl
                    have hs8 := h.slots 8 _ rfl
                    have hsz := h.size
                    have h := Rep.of_act1 (N := 64) (a := A.put (some 60) v3) (D := []) w10 (by simpa [Act.put] using h.defers) (by simpa [Act.put] using hsz) 5 rt hrt10 [(51, .p 5 0), (60, .v v3), (8, .v (.int .i64 x.o))] ⟨.inr ⟨0, rfl, by rw [get_put]; simpa using hs51⟩, .inl ⟨_, rfl, by rw [get_put]; simp [hsz]⟩, .inl ⟨_, rfl, by rw [get_put]; simpa using hs8⟩, trivial⟩
                    refine wpl_stepN h rfl (ok_nil rfl rfl rfl) rfl rfl rfl rfl ?_
                    intro ρ A w11 ha1 h
                    refine wpl_stepN h rfl (ok_fld rfl rfl rfl fo51_0 rfl) rfl rfl rfl rfl ?_
                    intro ρ A w11 ha2 h
                    refine wpl_stepN h rfl (ok_store_cell (cs := #[v3]) rfl rfl rfl rfl rfl sz49 (row_slice hown10) (Nat.zero_lt_one) rfl) rfl rfl rfl rfl ?_
                    intro ρ A w11 ha3 h
                    refine wpList_nil ?_
                    refine Exit.then_normal ?_
                    have hnum : ρ.num 5 = rt := (ha3 5).trans ((ha2 5).trans (ha1 5))
                    have hbox := (h.mem 5 _ rfl).1
                    rw [hnum] at hbox
                    have hbox : w11.heap[rt]? = some (cobj #[v3] 51) := hbox
                    have hown11 := row_keep hown10 (fun g hg => h.keeps.block g (row_lt hown10 hg) (fun e => row_ne hown10 hrt10 (by decide) (by rw [← (show g = rt from e)]; exact hg)))
                    have hk11 : Keeps { W := w, M := f } w11 := Keeps.chain hb10 h.keeps fun m hm => .inl (by rw [show m = rt from hm]; exact hfr)
                    have h := h.rebase [(8, .v (.int .i64 x.o))] ⟨⟨_, rfl, _, rfl, rfl⟩, trivial⟩
                    have hend : [] ++ L.take i ++ L.drop (i + 1) = L.take i ++ L.drop (i + 1) := by simp
                    rw [hend] at hown11
                    apply seq_dag hmix h
                    case hw =>
                      apply Walk.cons
                      · exact ok_move rfl rfl rfl
                      apply Walk.cons
                      · exact ok_assign rfl rfl rfl
                      apply Walk.cons
                      · exact ok_assign rfl rfl rfl
                      exact Walk.nil _
                    case hck => kernel_rfl
                    case hQ =>
                      intro ρ A w12 h
                      refine wp_ret ?_
                      repeat (first | refine Exit.thenRet ?_ | refine Exit.blockRet ?_)
                      refine h.result_tmp2 Try.results18 rfl rfl ?_
                      have hl := h.lies
                      refine .inr ⟨x, hx, rfl, _, refA_shut (below_obj hl hbox) (row_below hown11 hl), fun k hk => ?_, ?_⟩
                      · rcases hk with rfl | hk
                        · exact .inl hfr
                        · exact .inr (row_base hown11 hk)
                      · exact ⟨hl.os.trans hk11.os, hl.tape.trans hk11.tape, hl.output.trans hk11.output, Nat.le_trans hk11.size hl.size, fun k hk hM => (hl.block k (Nat.lt_of_lt_of_le hk hk11.size)).trans (hk11.block k hk hM)⟩
        · have hlk : L.length = k := by omega
          obtain rfl : i = L.length := by omega
          apply seq_dag hmix h
          case hw =>
            apply Walk.cons
            · exact ok_move rfl rfl rfl
            apply Walk.cons
            · exact ok_move rfl rfl rfl
            apply Walk.cons
            · exact ok_nil_v rfl rfl rfl
            apply Walk.cons
            · exact ok_fld_v rfl rfl rfl fo51_0 rfl
            apply Walk.cons
            · exact ok_load_cell_ro rfl rfl rfl (fun h => h) one49 hcb
            apply Walk.cons
            · exact ok_len_ro rfl rfl rfl Try.underlying49
            apply Walk.cons
            · exact o_bin rfl rfl rfl rfl (r_lss (b := L.length) (decide_eq_false hil))
            apply Walk.cons
            · exact ok_move rfl rfl rfl
            apply Walk.cons
            · first | exact ok_skip rfl | exact ok_skip_u rfl | exact ok_move rfl rfl rfl
            apply Walk.cons
            · first | exact ok_pick_true rfl rfl rfl rfl | exact ok_pick_false rfl rfl rfl rfl
            exact Walk.nil _
          case hck => kernel_rfl
          case hQ =>
            intro ρ A w1 h
            refine if_false' h rfl (wp_exit ?_)
            repeat (first | refine Exit.thenExit ?_ | refine Exit.blockExitNe (by decide) ?_)
            refine Exit.blockExit ?_
            refine Exit.then_normal ?_
            apply seq_dag hmix h
            case hw =>
              apply Walk.cons
              · exact ok_assign rfl rfl rfl
              apply Walk.cons
              · exact ok_assign rfl rfl rfl
              exact Walk.nil _
            case hck => kernel_rfl
            case hQ =>
              intro ρ A w1 h
              refine wp_ret ?_
              repeat (first | refine Exit.thenRet ?_ | refine Exit.blockRet ?_)
              refine h.result_tmp2 Try.results18 rfl rfl ?_
              exact .inl ⟨hlk, rfl, h.below⟩
end Go.Proofs.Ytnppgaohfegloaa
