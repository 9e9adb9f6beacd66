/-
  The walks of a table's own functions: New, Len, Put, Drop.
-/
import Derived.Test.YtnppgaohfegloaaDown
namespace Go.Proofs.Ytnppgaohfegloaa
open Go.RowKit

theorem wp_join {P : Program} {c : Code} {a : Act} {w : World} {K : Act → World → Prop} {Q : Exit → Act → World → Prop} (J : Act → World → Prop) (h : c.wp P (Exit.then J Q) a w) (hJ : ∀ a w, J a w → K a w) : c.wp P (Exit.then K Q) a w :=
  wp_mono h fun e a w hq => by
    cases e with
    | normal => exact hJ _ _ hq
    | exit id => exact hq
    | goto l => exact hq
    | ret => exact hq
    | panic ch => exact hq
    | outgrown => exact hq
def Tab.put (M : Tab) (v : Bool) (n b : Nat) (o : Int) : Tab := ⟨updK M.own v b (topD n b) (some o), if M.own v b (topD n b) = none then M.cnt + 1 else M.cnt⟩
def Tab.full (M : Tab) (v : Bool) (n b : Nat) : Prop := M.own v b (topD n b) = none ∧ 64 ≤ M.cnt
def Tab.drop (M : Tab) (v : Bool) (n b : Nat) : Tab := ⟨updK M.own v b (topD n b) none, M.cnt - 1⟩
/-- what a call leaves of a table that it may change -/
def TabOut (t : Nat) (f : Nat → Prop) (M : Tab) (w w' : World) : Prop := ∃ f', (tabA M).holds t f' (hp w') ∧ (∀ k, f' k → f k ∨ w.heap.size ≤ k) ∧ Keeps { W := w, M := f } w'
theorem Made.out {t : Nat} {ids : Ids} {M M0 : Tab} {T T' : Hp} {w w' : World} (h : Made t M0 T w T' w') (hI : IsT t ids M T') : TabOut t (fun n => T n ≠ none) M w w' :=
  ⟨fun n => T' n ≠ none, ⟨ids, T', hI, rfl, h.sub⟩, h.dom, h.keeps⟩
theorem nodeC_put (ids : Ids) (M : Tab) (v : Bool) (d m : Nat) (o : Int) (c : Nat) : ((nodeC ids M v d m).setIfInBounds 2 (.bool true)).setIfInBounds 3 (.int .i64 o) = nodeC ids ⟨updK M.own v d m (some o), c⟩ v d m := by
  simp only [nodeC, updK_same]
  rfl
theorem nodeC_drop (ids : Ids) (M : Tab) (v : Bool) (d m : Nat) (c : Nat) : ((nodeC ids M v d m).setIfInBounds 2 (.bool false)).setIfInBounds 3 (.int .i64 0) = nodeC ids ⟨updK M.own v d m none, c⟩ v d m := by
  simp only [nodeC, updK_same]
  rfl
theorem tabC_cnt (ids : Ids) (M : Tab) (c : Nat) : (tabC ids M).setIfInBounds 2 (.int .i64 (c : Nat)) = tabC ids ⟨M.own, c⟩ := rfl
theorem size_nodeC (ids : Ids) (M : Tab) (v : Bool) (d m : Nat) : (nodeC ids M v d m).size = 22 := rfl
theorem pfx128 {v : Bool} {n b : Nat} (h : isPfx v n (b : Nat) = true) : b ≤ 128 := by
  obtain ⟨k, h1, h2, _⟩ := isPfx_nat h
  have := mostA_le v
  omega
theorem new_any (w : World) : Calls Try.prog 9 #[] w fun e w' => ∃ q f, e = .returned (.pointer (some ⟨q, 0, none⟩)) ∧ (tabA Tab.nil).holds q f (hp w') ∧ (∀ k, f k → w.heap.size ≤ k) ∧ Below w.heap.size w w' := by
  go_enter Try.func9, Try.ntmps9
  have h := Rep.start (N := 3) [] [undef, undef, undef] w rfl
  apply seq_dag hmix h
  case hw =>
    apply Walk.cons
    · exact ok_assign rfl rfl rfl
    exact Walk.nil _
  case hck => kernel_rfl
  case hQ =>
    intro ρ A w1 h
    apply seq_dag hmix h
    case hw =>
      apply Walk.cons
      · exact o_built rfl rfl (by kernel_rfl) (v := .agg (tbc (.pointer none) (.pointer none) 0)) (fun w => by kernel_rfl)
      apply Walk.cons
      · exact ok_box 2 rfl rfl rfl rfl (cs := tbc (.pointer none) (.pointer none) 0)
      apply Walk.cons
      · exact ok_assign rfl rfl rfl
      exact Walk.nil _
    case hck => kernel_rfl
    case hQ =>
      intro ρ A w1 h
      have hm := h.mem 2 _ rfl
      have ho := h.own 2 _ rfl
      refine wp_ret ?_
      refine h.result_av Try.results9 rfl ?_
      refine ⟨ρ.num 2, fun n => n = ρ.num 2, rfl, ⟨_, _, IsT.nil (ρ.num 2), ?_, fun n o hn => ?_⟩, fun k hk => ?_, h.below⟩
      · funext n
        by_cases e : n = ρ.num 2 <;> simp [e]
      · by_cases e : n = ρ.num 2
        · subst e
          simp only [if_true] at hn
          cases hn
          exact hm.1
        · simp [e] at hn
      · rcases ho k (by rw [hm.2]; exact hk) with h1 | h1
        · exact h1
        · exact h1.elim
theorem len_any {t : Nat} {f : Nat → Prop} {M : Tab} (w : World) (hA : (tabA M).holds t f (hp w)) : Calls Try.prog 12 #[.pointer (some ⟨t, 0, none⟩)] w fun e w' => e = .returned (.int .i64 (M.cnt : Nat)) ∧ Below w.heap.size w w' := by
  obtain ⟨ids, T, hI, hf, hT⟩ := hA
  subst hf
  go_enter Try.func12, Try.ntmps12
  have h := Rep.startA (N := 9) (heapA T) t (fun n => T n ≠ none) [.pointer (some ⟨t, 0, none⟩)] [undef, undef, undef, undef, undef, undef, undef, undef] w ⟨rfl, hT⟩ rfl
  apply seq_dag hmix h
  case hw =>
    apply Walk.cons
    · exact ok_assign rfl rfl rfl
    exact Walk.nil _
  case hck => kernel_rfl
  case hQ =>
    intro ρ A w1 h
    refine wp_seq ?_
    apply seq_dag hmix h
    case hw =>
      apply Walk.cons
      · exact ok_move rfl rfl rfl
      apply Walk.cons
      · exact ok_pure rfl (by kernel_rfl) (v := .bool false) (fun w => by kernel_rfl)
      exact Walk.nil _
    case hck => kernel_rfl
    case hQ =>
      intro ρ A w1 h
      refine if_false' h rfl (wp_skip (Exit.then_normal ?_))
      apply seq_dag hmix h
      case hw =>
        apply Walk.cons
        · exact ok_move rfl rfl rfl
        apply Walk.cons
        · first | exact ok_nil rfl rfl rfl | exact ok_nil_v rfl rfl rfl
        apply Walk.cons
        · first | exact ok_fld rfl rfl rfl fo60_1 rfl | exact ok_fld_v rfl rfl rfl fo60_1 rfl
        apply Walk.cons
        · exact ok_hload rfl rfl (i := 0) rfl rfl hI.root one3 rfl
        apply Walk.cons
        · exact ok_assign rfl rfl rfl
        exact Walk.nil _
      case hck => kernel_rfl
      case hQ =>
        intro ρ A w1 h
        refine wp_ret ?_
        repeat (first | refine Exit.thenRet ?_ | refine Exit.blockRet ?_)
        refine h.result_tmp Try.results12 rfl ?_
        exact ⟨rfl, h.below_of (i := 0) rfl (fun _ h => h) hT⟩
theorem put_no {t : Nat} (v : Bool) (n : Nat) (b o : Int) (hp' : isPfx v n b = false) (w : World) : Calls Try.prog 10 #[.pointer (some ⟨t, 0, none⟩), .agg (pfc v n b), .int .i64 o] w fun e w' => e = .returned (.int .i64 25) ∧ Below w.heap.size w w' := by
  have hpre : ∀ w, Calls Try.prog 13 #[.agg (pfc v n b)] w fun e w' => e = .returned (.bool false) ∧ Below w.heap.size w w' := fun w => hp' ▸ isPrefix_any v n b w
  go_enter Try.func10, Try.ntmps10
  have h := Rep.start (N := 49) [.pointer (some ⟨t, 0, none⟩), .agg (pfc v n b), .int .i64 o] [undef, undef, undef, undef, undef, undef, undef, undef, undef, undef, undef, undef, undef, undef, undef, undef, undef, undef, undef, undef, undef, undef, undef, undef, undef, undef, undef, undef, undef, undef, undef, undef, undef, undef, undef, undef, undef, undef, undef, undef, undef, undef, undef, undef, undef, undef] w rfl
  apply seq_dag hmix h
  case hw =>
    apply Walk.cons
    · exact o_box31 4 rfl rfl rfl
    apply Walk.cons
    · exact ok_assign rfl rfl rfl
    exact Walk.nil _
  case hck => kernel_rfl
  case hQ =>
    intro ρ A w1 h
    refine wp_seq (wp_block ?_)
    apply seq_dag hmix h
    case hw =>
      apply Walk.cons
      · exact ok_move rfl rfl rfl
      apply Walk.cons
      · exact ok_pure rfl (by kernel_rfl) (v := .bool false) (fun w => by kernel_rfl)
      apply Walk.cons
      · exact ok_assign rfl rfl rfl
      exact Walk.nil _
    case hck => kernel_rfl
    case hQ =>
      intro ρ A w1 h
      refine if_false' h rfl ?_
      apply seq_dag hmix h
      case hw =>
        apply Walk.cons
        · first | exact o_load31 rfl rfl rfl rfl | exact o_load31op rfl rfl rfl rfl
        apply Walk.cons
        · exact ok_call_val rfl rfl fn13 [.v _] rfl (rd := []) (fun _ w _ _ => hpre w)
        apply Walk.cons
        · exact ok_not rfl rfl rfl rfl
        apply Walk.cons
        · exact ok_assign rfl rfl rfl
        exact Walk.nil _
      case hck => kernel_rfl
      case hQ =>
        intro ρ A w1 h
        refine if_true' h rfl ?_
        apply seq_dag hmix h
        case hw =>
          apply Walk.cons
          · exact ok_assign rfl rfl rfl
          exact Walk.nil _
        case hck => kernel_rfl
        case hQ =>
          intro ρ A w1 h
          refine wp_ret ?_
          repeat (first | refine Exit.thenRet ?_ | refine Exit.blockRet ?_)
          refine h.result_tmp Try.results10 rfl ?_
          exact ⟨rfl, h.below⟩
def puS (v : Bool) (n b : Nat) (t q : Nat) (T : Hp) (o : Int) : St := ⟨[(0, .v (.pointer (some ⟨t, 0, none⟩))), (2, .v (.int .i64 o)), (7, .v (.pointer (some ⟨q, 0, none⟩)))], [(0, .ext (heapA T)), (4, .mk (pfc v n (b : Nat)) 31)]⟩
theorem made_out {t : Nat} {M : Tab} {T T' : Hp} {w w' : World} {ρ : Pl} {x : Value} (h : Made t M T w T' w') (hf : ρ.foot 0 = fun n => T n ≠ none) : Out ρ { val := .v x, wr := some (0, .ext (heapA T')), rd := [0] } w x w' ⟨0, fun n => T' n ≠ none, fun _ => False⟩ :=
  ⟨rfl, h.keeps.os, h.keeps.tape, h.keeps.output, h.keeps.size, fun b hb hk => h.keeps.block b hb (fun hT => hk _ rfl (by rw [hf]; exact hT)), fun y hy => by
    cases hy; exact ⟨⟨rfl, h.sub⟩, fun b hb => by rw [hf]; exact h.dom b hb⟩, (fun _ h => by cases h), (fun _ _ _ h => by cases h)⟩
set_option maxRecDepth 20000 in
set_option maxHeartbeats 1000000 in
theorem put_yes {t : Nat} {f : Nat → Prop} {M : Tab} (v : Bool) (n b : Nat) (o : Int) (hn : n < 2 ^ 128) (hp' : isPfx v n (b : Nat) = true) (w : World) (hA : (tabA M).holds t f (hp w)) :
    Calls Try.prog 10 #[.pointer (some ⟨t, 0, none⟩), .agg (pfc v n (b : Nat)), .int .i64 o] w fun e w' => (M.full v n b ∧ e = .returned (.int .i64 81) ∧ Below w.heap.size w w') ∨ (¬ M.full v n b ∧ e = .returned (.int .i64 0) ∧ TabOut t f (M.put v n b o) w w') := by
  have hb := pfx128 hp'
  have hpre : ∀ w, Calls Try.prog 13 #[.agg (pfc v n (b : Nat))] w fun e w' => e = .returned (.bool true) ∧ Below w.heap.size w w' := fun w => hp' ▸ isPrefix_any v n b w
  obtain ⟨ids, T, hI, hf, hT⟩ := hA
  subst hf
  go_enter Try.func10, Try.ntmps10
  have h := Rep.startA (N := 49) (heapA T) t (fun n => T n ≠ none) [.pointer (some ⟨t, 0, none⟩), .agg (pfc v n (b : Nat)), .int .i64 o] [undef, undef, undef, undef, undef, undef, undef, undef, undef, undef, undef, undef, undef, undef, undef, undef, undef, undef, undef, undef, undef, undef, undef, undef, undef, undef, undef, undef, undef, undef, undef, undef, undef, undef, undef, undef, undef, undef, undef, undef, undef, undef, undef, undef, undef, undef] w ⟨rfl, hT⟩ rfl
  apply seq_dag hmix h
  case hw =>
    apply Walk.cons
    · exact o_box31 4 rfl rfl rfl
    apply Walk.cons
    · exact ok_assign rfl rfl rfl
    exact Walk.nil _
  case hck => kernel_rfl
  case hQ =>
    intro ρ A w1 h
    refine wp_seq (wp_block ?_)
    apply seq_dag hmix h
    case hw =>
      apply Walk.cons
      · exact ok_move rfl rfl rfl
      apply Walk.cons
      · exact ok_pure rfl (by kernel_rfl) (v := .bool false) (fun w => by kernel_rfl)
      apply Walk.cons
      · exact ok_assign rfl rfl rfl
      exact Walk.nil _
    case hck => kernel_rfl
    case hQ =>
      intro ρ A w1 h
      refine if_false' h rfl ?_
      apply seq_dag hmix h
      case hw =>
        apply Walk.cons
        · first | exact o_load31 rfl rfl rfl rfl | exact o_load31op rfl rfl rfl rfl
        apply Walk.cons
        · exact ok_call_val rfl rfl fn13 [.v _] rfl (rd := []) (fun _ w _ _ => hpre w)
        apply Walk.cons
        · exact ok_not rfl rfl rfl rfl
        apply Walk.cons
        · exact ok_assign rfl rfl rfl
        exact Walk.nil _
      case hck => kernel_rfl
      case hQ =>
        intro ρ A w1 h
        refine if_false' h rfl (wp_skip (Exit.block_normal (Exit.then_normal ?_)))
        apply seq_dag hmix h
        case hw =>
          apply Walk.cons
          · exact ok_move rfl rfl rfl
          apply Walk.cons
          · first | exact o_load31 rfl rfl rfl rfl | exact o_load31op rfl rfl rfl rfl
          apply Walk.cons
          · exact ok_call_val rfl rfl fn25 [.v _, .v _, .v _] rfl (rd := [0]) (fun ρ w h0 _ => down_no hI v n b hn hb w (h0 0 (by simp) _ rfl).2)
          apply Walk.cons
          · exact ok_assign rfl rfl rfl
          exact Walk.nil _
        case hck => kernel_rfl
        case hQ =>
          intro ρ A w1 h
          refine wp_seq ?_
          refine wp_join (fun a w3 => ¬ M.full v n b ∧ ∃ ids' T' q ρ M', IsT t ids' M' T' ∧ ids' v b (topD n b) = some q ∧ M'.own = M.own ∧ M'.cnt = (if M.own v b (topD n b) = none then M.cnt + 1 else M.cnt) ∧ Rep 49 (puS v n b t q T' o) ρ { W := w, M := fun n => T n ≠ none } a w3) ?_ ?_
          · refine wp_seq (wp_join (fun a w3 => ∃ ρ, Rep 49 ⟨[(0, .v (.pointer (some ⟨t, 0, none⟩))), (2, .v (.int .i64 o)), (4, .p 4 0), (7, .v (ptrOf (ids v b (topD n b)))), (26, .v (.bool (M.own v b (topD n b)).isNone))], [(0, .ext (heapA T)), (4, .mk (pfc v n (b : Nat)) 31)]⟩ ρ { W := w, M := fun n => T n ≠ none } a w3) ?_ ?_)
            · cases hq : ids v b (topD n b) with
              | none =>
                have ho : M.own v b (topD n b) = none := by
                  cases ho : M.own v b (topD n b) with
                  | none => rfl
                  | some o => exact absurd hq (hI.has _ _ _ (by rw [ho]; exact fun h => by cases h))
                rw [hq] at h
                apply region_dag hmix h
                case hw =>
                  apply Walk.cons
                  · exact ok_move rfl rfl rfl
                  apply Walk.cons
                  · exact ok_pure rfl (by kernel_rfl) (v := .bool true) (fun w => by kernel_rfl)
                  apply Walk.cons
                  · exact ok_move rfl rfl rfl
                  apply Walk.cons
                  · first | exact ok_skip rfl | exact ok_move rfl rfl rfl
                  apply Walk.cons
                  · first | exact ok_skip rfl | exact ok_nil rfl rfl rfl | exact ok_nil_v rfl rfl rfl
                  apply Walk.cons
                  · first | exact ok_skip rfl | exact ok_fld rfl rfl rfl fo64_1 rfl | exact ok_fld_v rfl rfl rfl fo64_1 rfl
                  apply Walk.cons
                  · first | exact ok_skip rfl | exact ok_load_cell rfl rfl rfl rfl one4 rfl
                  apply Walk.cons
                  · first | exact ok_skip rfl | exact ok_not rfl rfl rfl rfl
                  apply Walk.cons
                  · first | exact ok_pick_true rfl rfl rfl rfl | exact ok_pick_false rfl rfl rfl rfl
                  exact Walk.nil _
                case hck => kernel_rfl
                case hQ =>
                  intro ρ A w1 h
                  refine Exit.then_normal ?_
                  exact ⟨_, h.plain _ ⟨rfl, rfl, rfl, by (try rw [hq]); rfl, by (try rw [ho]); rfl, trivial⟩ ⟨rfl, rfl, trivial⟩ rfl⟩
              | some q =>
                have hnode := hI.node _ _ _ _ hq
                rw [hq] at h
                cases ho : M.own v b (topD n b) with
                | none =>
                  have howned : (nodeC ids M v b (topD n b))[2]? = some (.bool false) := by
                    show some (Value.bool (M.own v b (topD n b)).isSome) = _
                    rw [ho]; rfl
                  apply region_dag hmix h
                  case hw =>
                    apply Walk.cons
                    · exact ok_move rfl rfl rfl
                    apply Walk.cons
                    · exact ok_pure rfl (by kernel_rfl) (v := .bool false) (fun w => by kernel_rfl)
                    apply Walk.cons
                    · exact ok_move rfl rfl rfl
                    apply Walk.cons
                    · first | exact ok_skip rfl | exact ok_move rfl rfl rfl
                    apply Walk.cons
                    · first | exact ok_skip rfl | exact ok_nil rfl rfl rfl | exact ok_nil_v rfl rfl rfl
                    apply Walk.cons
                    · first | exact ok_skip rfl | exact ok_fld rfl rfl rfl fo64_1 rfl | exact ok_fld_v rfl rfl rfl fo64_1 rfl
                    apply Walk.cons
                    · first | exact ok_skip rfl | exact ok_hload rfl rfl (i := 0) rfl rfl hnode one4 howned
                    apply Walk.cons
                    · first | exact ok_skip rfl | exact ok_not rfl rfl rfl rfl
                    apply Walk.cons
                    · first | exact ok_pick_true rfl rfl rfl rfl | exact ok_pick_false rfl rfl rfl rfl
                    exact Walk.nil _
                  case hck => kernel_rfl
                  case hQ =>
                    intro ρ A w1 h
                    refine Exit.then_normal ?_
                    exact ⟨_, h.plain _ ⟨rfl, rfl, rfl, by (try rw [hq]); rfl, by (try rw [ho]); rfl, trivial⟩ ⟨rfl, rfl, trivial⟩ rfl⟩
                | some o0 =>
                  have howned : (nodeC ids M v b (topD n b))[2]? = some (.bool true) := by
                    show some (Value.bool (M.own v b (topD n b)).isSome) = _
                    rw [ho]; rfl
                  apply region_dag hmix h
                  case hw =>
                    apply Walk.cons
                    · exact ok_move rfl rfl rfl
                    apply Walk.cons
                    · exact ok_pure rfl (by kernel_rfl) (v := .bool false) (fun w => by kernel_rfl)
                    apply Walk.cons
                    · exact ok_move rfl rfl rfl
                    apply Walk.cons
                    · first | exact ok_skip rfl | exact ok_move rfl rfl rfl
                    apply Walk.cons
                    · first | exact ok_skip rfl | exact ok_nil rfl rfl rfl | exact ok_nil_v rfl rfl rfl
                    apply Walk.cons
                    · first | exact ok_skip rfl | exact ok_fld rfl rfl rfl fo64_1 rfl | exact ok_fld_v rfl rfl rfl fo64_1 rfl
                    apply Walk.cons
                    · first | exact ok_skip rfl | exact ok_hload rfl rfl (i := 0) rfl rfl hnode one4 howned
                    apply Walk.cons
                    · first | exact ok_skip rfl | exact ok_not rfl rfl rfl rfl
                    apply Walk.cons
                    · first | exact ok_pick_true rfl rfl rfl rfl | exact ok_pick_false rfl rfl rfl rfl
                    exact Walk.nil _
                  case hck => kernel_rfl
                  case hQ =>
                    intro ρ A w1 h
                    refine Exit.then_normal ?_
                    exact ⟨_, h.plain _ ⟨rfl, rfl, rfl, by (try rw [hq]); rfl, by (try rw [ho]); rfl, trivial⟩ ⟨rfl, rfl, trivial⟩ rfl⟩
            · rintro a w3 ⟨ρ, h⟩
              cases ho : M.own v b (topD n b) with
              | some o0 =>
                rw [ho] at h
                have hids := hI.has v b (topD n b) (by rw [ho]; exact fun h => by cases h)
                cases hq : ids v b (topD n b) with
                | none => exact absurd hq hids
                | some q =>
                  rw [hq] at h
                  refine if_false' h rfl (wp_skip (Exit.then_normal ?_))
                  exact ⟨(fun hf => by have := hf.1; rw [ho] at this; cases this), ids, T, q, _, M, hI, hq, rfl, (if_neg (fun h => by cases h)).symm, h.plain (puS v n b t q T o) ⟨rfl, rfl, rfl, trivial⟩ ⟨rfl, rfl, trivial⟩ rfl⟩
              | none =>
                rw [ho] at h
                refine if_true' h rfl ?_
                refine wp_seq ?_
                by_cases hful : 64 ≤ M.cnt
                · apply seq_dag hmix h
                  case hw =>
                    apply Walk.cons
                    · exact ok_move rfl rfl rfl
                    apply Walk.cons
                    · first | exact ok_nil rfl rfl rfl | exact ok_nil_v rfl rfl rfl
                    apply Walk.cons
                    · first | exact ok_fld rfl rfl rfl fo60_1 rfl | exact ok_fld_v rfl rfl rfl fo60_1 rfl
                    apply Walk.cons
                    · exact ok_hload rfl rfl (i := 0) rfl rfl hI.root one3 rfl
                    apply Walk.cons
                    · exact o_bin rfl rfl rfl rfl (r_geqi (a := (M.cnt : Nat)) (b := 64) (decide_eq_true (by omega)))
                    exact Walk.nil _
                  case hck => kernel_rfl
                  case hQ =>
                    intro ρ A w1 h
                    refine if_true' h rfl ?_
                    apply seq_dag hmix h
                    case hw =>
                      apply Walk.cons
                      · exact ok_assign rfl rfl rfl
                      exact Walk.nil _
                    case hck => kernel_rfl
                    case hQ =>
                      intro ρ A w1 h
                      refine wp_ret ?_
                      repeat (first | refine Exit.thenRet ?_ | refine Exit.blockRet ?_)
                      refine h.result_tmp Try.results10 rfl ?_
                      exact .inl ⟨⟨ho, hful⟩, rfl, h.below_of (i := 0) rfl (fun _ h => h) hT⟩
                · apply seq_dag hmix h
                  case hw =>
                    apply Walk.cons
                    · exact ok_move rfl rfl rfl
                    apply Walk.cons
                    · first | exact ok_nil rfl rfl rfl | exact ok_nil_v rfl rfl rfl
                    apply Walk.cons
                    · first | exact ok_fld rfl rfl rfl fo60_1 rfl | exact ok_fld_v rfl rfl rfl fo60_1 rfl
                    apply Walk.cons
                    · exact ok_hload rfl rfl (i := 0) rfl rfl hI.root one3 rfl
                    apply Walk.cons
                    · exact o_bin rfl rfl rfl rfl (r_geqi (a := (M.cnt : Nat)) (b := 64) (decide_eq_false (by omega)))
                    exact Walk.nil _
                  case hck => kernel_rfl
                  case hQ =>
                    intro ρ A w1 h
                    refine if_false' h rfl (wp_skip (Exit.then_normal ?_))
                    refine seq_list ?_
                    refine wpl_step h rfl (ok_move rfl rfl rfl) rfl rfl rfl rfl ?_
                    intro ρ A w3 h
                    refine wpl_step h rfl (ok_nil_v rfl rfl rfl) rfl rfl rfl rfl ?_
                    intro ρ A w3 h
                    refine wpl_step h rfl (ok_fld_v rfl rfl rfl fo60_1 rfl) rfl rfl rfl rfl ?_
                    intro ρ A w3 h
                    refine wpl_step h rfl (ok_hload rfl rfl (i := 0) rfl rfl hI.root one3 rfl) rfl rfl rfl rfl ?_
                    intro ρ A w3 h
                    refine wpl_step h rfl (o_bin rfl rfl rfl rfl (r_addi (a := M.cnt) (b := 1) (by omega))) rfl rfl rfl rfl ?_
                    intro ρ A w3 h
                    refine wpl_step h rfl (ok_nil_v rfl rfl rfl) rfl rfl rfl rfl ?_
                    intro ρ A w3 h
                    refine wpl_step h rfl (ok_fld_v rfl rfl rfl fo60_1 rfl) rfl rfl rfl rfl ?_
                    intro ρ A w3 h
                    refine wpl_step h rfl (ok_hstore rfl rfl (i := 0) rfl rfl rfl hI.root sz3 rfl (show 0 + 2 < 3 by decide) (tabC_cnt ids M (M.cnt + 1))) rfl rfl rfl rfl ?_
                    intro ρ A w3 h
                    refine wpList_nil ?_
                    refine Exit.then_normal ?_
                    have hI2 := hI.setCnt (M.cnt + 1)
                    have h := h.plain ⟨[(0, .v (.pointer (some ⟨t, 0, none⟩))), (2, .v (.int .i64 o)), (4, .p 4 0)], [(0, .ext (heapA (T.set t (cobj (tabC ids ⟨M.own, M.cnt + 1⟩) 60)))), (4, .mk (pfc v n (b : Nat)) 31)]⟩ ⟨rfl, rfl, rfl, trivial⟩ ⟨rfl, rfl, trivial⟩ rfl
                    generalize T.set t (cobj (tabC ids ⟨M.own, M.cnt + 1⟩) 60) = T2 at hI2 h
                    refine last_list ?_
                    refine wpl_step h rfl (ok_move rfl rfl rfl) rfl rfl rfl rfl ?_
                    intro ρ A w3 h
                    refine wpl_step h rfl (o_load31 rfl rfl rfl rfl) rfl rfl rfl rfl ?_
                    intro ρ A w3 h
                    refine wpl_call (α := Ids × Hp × Nat) (fun x => { val := .v (.pointer (some ⟨x.2.2, 0, none⟩)), wr := some (0, .ext (heapA x.2.1)), rd := [0] }) (fun x => IsT t x.1 ⟨M.own, M.cnt + 1⟩ x.2.1 ∧ x.1 v b (topD n b) = some x.2.2) h rfl rfl fn25 [.v _, .v _, .v _] rfl ?_ rfl (fun _ => rfl) (fun _ => rfl) (fun _ => rfl) ?_
                    · have h0 := h.mem 0 _ rfl
                      refine (down_yes hI2 v n b hn hp' _ h0.2).mono fun en w5 hd => ?_
                      obtain ⟨ids', T', q, rfl, hI', hq, hmd⟩ := hd
                      exact ⟨(ids', T', q), _, ⟨0, fun n => T' n ≠ none, fun _ => False⟩, ⟨hI', hq⟩, rfl, made_out hmd h0.1⟩
                    · rintro ⟨ids', T', q⟩ ρ A w5 ⟨hI', hq⟩ h
                      refine wpl_step h rfl (ok_assign rfl rfl rfl) rfl rfl rfl rfl ?_
                      intro ρ A w5 h
                      refine wpList_nil ?_
                      refine Exit.then_normal ?_
                      exact ⟨fun hf => hful hf.2, ids', T', q, _, _, hI', hq, rfl, (if_pos rfl).symm, h.plain (puS v n b t q T' o) ⟨rfl, rfl, rfl, trivial⟩ ⟨rfl, rfl, trivial⟩ rfl⟩
          · rintro a w3 ⟨hnf, ids', T', q, ρ, M', hI', hq, e1, e2, h⟩
            have hnode := hI'.node _ _ _ _ hq
            have hI2 := hI'.setOwn hq (some o)
            refine seq_list ?_
            refine wpl_step h rfl (ok_move rfl rfl rfl) rfl rfl rfl rfl ?_
            intro ρ A w3 h
            refine wpl_step h rfl (ok_move rfl rfl rfl) rfl rfl rfl rfl ?_
            intro ρ A w3 h
            refine wpl_step h rfl (ok_move rfl rfl rfl) rfl rfl rfl rfl ?_
            intro ρ A w3 h
            refine wpl_step h rfl (ok_nil_v rfl rfl rfl) rfl rfl rfl rfl ?_
            intro ρ A w3 h
            refine wpl_step h rfl (ok_fld_v rfl rfl rfl fo64_1 rfl) rfl rfl rfl rfl ?_
            intro ρ A w3 h
            refine wpl_step h rfl (ok_hstore rfl rfl (i := 0) rfl rfl rfl hnode sz4 rfl (show 0 + 2 < 22 by decide) rfl) rfl rfl rfl rfl ?_
            intro ρ A w3 h
            refine wpl_step h rfl (ok_nil_v rfl rfl rfl) rfl rfl rfl rfl ?_
            intro ρ A w3 h
            refine wpl_step h rfl (ok_fld_v rfl rfl rfl fo64_2 rfl) rfl rfl rfl rfl ?_
            intro ρ A w3 h
            refine wpl_step h rfl (ok_hstore rfl rfl (i := 0) rfl rfl rfl (Hp.set_same _ _ _) sz3 rfl (by rw [Array.size_setIfInBounds, size_nodeC]; decide) (nodeC_put ids' M' v b (topD n b) o M'.cnt)) rfl rfl rfl rfl ?_
            intro ρ A w3 h
            refine wpList_nil ?_
            refine Exit.then_normal ?_
            have eM : (⟨updK M'.own v b (topD n b) (some o), M'.cnt⟩ : Tab) = M.put v n b o := by rw [Tab.put, e1, e2]
            have h := h.plain ⟨[(2, .v (.int .i64 o))], [(0, .ext (heapA ((T'.set q (cobj ((nodeC ids' M' v b (topD n b)).setIfInBounds 2 (.bool true)) 64)).set q (cobj (nodeC ids' ⟨updK M'.own v b (topD n b) (some o), M'.cnt⟩ v b (topD n b)) 64))))]⟩ ⟨rfl, trivial⟩ ⟨rfl, trivial⟩ rfl
            rw [Hp.set_set, eM] at h
            rw [eM] at hI2
            apply seq_dag hmix h
            case hw =>
              apply Walk.cons
              · exact ok_assign rfl rfl rfl
              exact Walk.nil _
            case hck => kernel_rfl
            case hQ =>
              intro ρ A w1 h
              refine wp_ret ?_
              repeat (first | refine Exit.thenRet ?_ | refine Exit.blockRet ?_)
              refine h.result_tmp Try.results10 rfl ?_
              exact .inr ⟨hnf, rfl, (h.made (i := 0) (t := t) (M := M) rfl).out hI2⟩
end Go.Proofs.Ytnppgaohfegloaa
