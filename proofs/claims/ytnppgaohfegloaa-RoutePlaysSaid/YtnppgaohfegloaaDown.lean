/-
  The walk to a prefix's node: looked for, or made.
-/
import Derived.Test.YtnppgaohfegloaaTools
namespace Go.Proofs.Ytnppgaohfegloaa
open Go.RowKit

theorem isPfx_le {v : Bool} {n b i : Nat} (h : isPfx v n (b : Nat) = true) (hi : i ≤ b) : isPfx v n (i : Nat) = true := by
  simp only [isPfx, Bool.and_eq_true, decide_eq_true_eq] at h ⊢
  exact ⟨h.1, by omega, by omega⟩
theorem locB_upd (t : Nat) (ids : Ids) (v : Bool) (n i : Nat) (x : Option Nat) : locB t (updK ids v i (topD n i) x) v n i = locB t ids v n i := by
  cases i with
  | zero => rfl
  | succ i => simp only [locB]; rw [updK_ne _ _ (by omega)]
theorem onWay_upd {ids : Ids} {v : Bool} {n i : Nat} {x : Option Nat} (h : onWay ids v n i) : onWay (updK ids v i (topD n i) x) v n i := fun j hj => by
  rw [updK_ne _ _ (by omega)]
  exact h j hj
def dnS (t : Nat) (ids : Ids) (T : Hp) (v : Bool) (n b : Nat) (mk : Bool) (i : Nat) : St :=
  ⟨[(2, .v (.bool mk)), (4, .p 4 0), (7, .v (.pointer (some ⟨(locB t ids v n i).1, (locB t ids v n i).2, none⟩))), (8, .v (.int .i64 (i : Nat)))], [(0, .ext (heapA T)), (4, .mk (pfc v n (b : Nat)) 31)]⟩
set_option maxRecDepth 20000 in
theorem down_no {t : Nat} {ids : Ids} {M : Tab} {T : Hp} (hI : IsT t ids M T) (v : Bool) (n b : Nat) (hn : n < 2 ^ 128) (hb : b ≤ 128) (w : World) (hT : ∀ k o, T k = some o → hp w k = some o) :
    Calls Try.prog 25 #[.pointer (some ⟨t, 0, none⟩), .agg (pfc v n (b : Nat)), .bool false] w fun e w' => e = .returned (ptrOf (ids v b (topD n b))) ∧ Below w.heap.size w w' := by
  go_enter Try.func25, Try.ntmps25
  have h := Rep.startA (N := 55) (heapA T) t (fun n => T n ≠ none) [.pointer (some ⟨t, 0, none⟩), .agg (pfc v n (b : Nat)), .bool false] [undef, undef, undef, undef, undef, undef, undef, undef, undef, undef, undef, undef, undef, undef, undef, undef, undef, undef, undef, undef, undef, undef, undef, undef, undef, undef, undef, undef, undef, undef, undef, undef, undef, undef, undef, undef, undef, undef, undef, undef, undef, undef, undef, undef, undef, undef, undef, undef, undef, undef, undef, undef] w ⟨rfl, hT⟩ rfl
  apply seq_dag hmix h
  case hw =>
    apply Walk.cons
    · exact o_box31 4 rfl rfl rfl
    apply Walk.cons
    · exact ok_assign rfl rfl rfl
    exact Walk.nil _
  case hck => kernel_rfl
  case hQ =>
    intro ρ A w1 h
    apply seq_dag hmix h
    case hw =>
      apply Walk.cons
      · exact ok_move rfl rfl rfl
      apply Walk.cons
      · first | exact ok_fld rfl rfl rfl fo31_0 rfl | exact ok_fld_v rfl rfl rfl fo31_0 rfl
      apply Walk.cons
      · first | exact ok_fld rfl rfl rfl fo24_0 rfl | exact ok_fld_v rfl rfl rfl fo24_0 rfl
      apply Walk.cons
      · exact ok_load_cell rfl rfl rfl rfl one4 rfl
      apply Walk.cons
      · exact ok_call_val rfl rfl fn27 [.v _] rfl (rd := []) (fun _ w _ _ => side_any _ w)
      apply Walk.cons
      · first | exact ok_nil rfl rfl rfl | exact ok_nil_v rfl rfl rfl
      apply Walk.cons
      · first | exact ok_fld rfl rfl rfl fo60_0 rfl | exact ok_fld_v rfl rfl rfl fo60_0 rfl
      apply Walk.cons
      · exact o_at58 rfl rfl rfl rfl (j := if v then 1 else 0) (by cases v <;> decide) (Nat.zero_add _)
      apply Walk.cons
      · exact ok_assign rfl rfl rfl
      exact Walk.nil _
    case hck => kernel_rfl
    case hQ =>
      intro ρ A w1 h
      apply seq_dag hmix h
      case hw =>
        apply Walk.cons
        · exact ok_assign rfl rfl rfl
        exact Walk.nil _
      case hck => kernel_rfl
      case hQ =>
        intro ρ A w1 h
        have h := h.plain (dnS t ids T v n b false 0) ⟨rfl, rfl, rfl, rfl, trivial⟩ ⟨rfl, rfl, trivial⟩ rfl
        refine wp_block ?_
        refine rep_loop_by (fun i => b - i) (dnS t ids T v n b false) (fun i => i ≤ b ∧ onWay ids v n i) 0 ⟨Nat.zero_le _, onWay_zero _ _ _⟩ h ?_
        clear h
        rintro i ρ A w2 ⟨hi, hway⟩ h
        obtain ⟨cs, ty, hc1, hc2, hc3⟩ := hI.cell hn hway (by omega)
        refine wp_seq (wp_block ?_)
        refine wp_seq ?_
        cases hq : ids v i (topD n i) with
        | none =>
          rw [hq] at hc3
          apply seq_dag hmix h
          case hw =>
            apply Walk.cons
            · exact ok_move rfl rfl rfl
            apply Walk.cons
            · first | exact ok_nil rfl rfl rfl | exact ok_nil_v rfl rfl rfl
            apply Walk.cons
            · exact ok_hload rfl rfl (i := 0) rfl rfl hc1 one57 hc3
            apply Walk.cons
            · exact ok_pure rfl (by kernel_rfl) (v := .bool true) (fun w => by kernel_rfl)
            exact Walk.nil _
          case hck => kernel_rfl
          case hQ =>
            intro ρ A w1 h
            refine if_true' h rfl ?_
            refine wp_seq ?_
            apply seq_dag hmix h
            case hw =>
              apply Walk.cons
              · exact ok_move rfl rfl rfl
              apply Walk.cons
              · exact ok_not rfl rfl rfl rfl
              exact Walk.nil _
            case hck => kernel_rfl
            case hQ =>
              intro ρ A w1 h
              refine if_true' h rfl ?_
              apply seq_dag hmix h
              case hw =>
                apply Walk.cons
                · exact ok_assign rfl rfl rfl
                exact Walk.nil _
              case hck => kernel_rfl
              case hQ =>
                intro ρ A w1 h
                refine wp_ret ?_
                repeat (first | refine Exit.thenRet ?_ | refine Exit.blockRet ?_)
                refine h.result_tmp Try.results25 rfl ?_
                exact ⟨by rw [hI.none_on hq b hi hb]; rfl, h.below_of (i := 0) rfl (fun _ h => h) hT⟩
        | some q =>
          rw [hq] at hc3
          apply seq_dag hmix h
          case hw =>
            apply Walk.cons
            · exact ok_move rfl rfl rfl
            apply Walk.cons
            · first | exact ok_nil rfl rfl rfl | exact ok_nil_v rfl rfl rfl
            apply Walk.cons
            · exact ok_hload rfl rfl (i := 0) rfl rfl hc1 one57 hc3
            apply Walk.cons
            · exact ok_pure rfl (by kernel_rfl) (v := .bool false) (fun w => by kernel_rfl)
            exact Walk.nil _
          case hck => kernel_rfl
          case hQ =>
            intro ρ A w1 h
            refine if_false' h rfl (wp_skip (Exit.then_normal ?_))
            refine wp_seq ?_
            by_cases hib : i = b
            · subst hib
              apply seq_dag hmix h
              case hw =>
                apply Walk.cons
                · exact ok_move rfl rfl rfl
                apply Walk.cons
                · first | exact ok_fld rfl rfl rfl fo31_1 rfl | exact ok_fld_v rfl rfl rfl fo31_1 rfl
                apply Walk.cons
                · exact ok_load_cell rfl rfl rfl rfl one3 rfl
                apply Walk.cons
                · exact o_bin rfl rfl rfl rfl (r_eqli (a := i) (b := i) (decide_eq_true rfl))
                exact Walk.nil _
              case hck => kernel_rfl
              case hQ =>
                intro ρ A w1 h
                refine if_true' h rfl ?_
                apply seq_dag hmix h
                case hw =>
                  apply Walk.cons
                  · exact ok_move rfl rfl rfl
                  apply Walk.cons
                  · first | exact ok_nil rfl rfl rfl | exact ok_nil_v rfl rfl rfl
                  apply Walk.cons
                  · exact ok_hload rfl rfl (i := 0) rfl rfl hc1 one57 hc3
                  apply Walk.cons
                  · exact ok_assign rfl rfl rfl
                  exact Walk.nil _
                case hck => kernel_rfl
                case hQ =>
                  intro ρ A w1 h
                  refine wp_ret ?_
                  repeat (first | refine Exit.thenRet ?_ | refine Exit.blockRet ?_)
                  refine h.result_tmp Try.results25 rfl ?_
                  exact ⟨by rw [hq], h.below_of (i := 0) rfl (fun _ h => h) hT⟩
            · apply seq_dag hmix h
              case hw =>
                apply Walk.cons
                · exact ok_move rfl rfl rfl
                apply Walk.cons
                · first | exact ok_fld rfl rfl rfl fo31_1 rfl | exact ok_fld_v rfl rfl rfl fo31_1 rfl
                apply Walk.cons
                · exact ok_load_cell rfl rfl rfl rfl one3 rfl
                apply Walk.cons
                · exact o_bin rfl rfl rfl rfl (r_eqli (a := i) (b := b) (decide_eq_false hib))
                exact Walk.nil _
              case hck => kernel_rfl
              case hQ =>
                intro ρ A w1 h
                refine if_false' h rfl (wp_skip (Exit.then_normal ?_))
                apply region_dag hmix h
                case hw =>
                  apply Walk.cons
                  · exact ok_move rfl rfl rfl
                  apply Walk.cons
                  · first | exact ok_nil rfl rfl rfl | exact ok_nil_v rfl rfl rfl
                  apply Walk.cons
                  · exact ok_hload rfl rfl (i := 0) rfl rfl hc1 one57 hc3
                  apply Walk.cons
                  · first | exact ok_fld rfl rfl rfl fo31_0 rfl | exact ok_fld_v rfl rfl rfl fo31_0 rfl
                  apply Walk.cons
                  · first | exact o_load24 rfl rfl rfl rfl | exact o_load24p rfl rfl rfl rfl
                  apply Walk.cons
                  · exact ok_move rfl rfl rfl
                  apply Walk.cons
                  · exact ok_call_val rfl rfl fn28 [.v _, .v _] rfl (rd := []) (fun _ w _ _ => bit_any v n i (by omega) w)
                  apply Walk.cons
                  · first | exact ok_nil rfl rfl rfl | exact ok_nil_v rfl rfl rfl
                  apply Walk.cons
                  · first | exact ok_fld rfl rfl rfl fo64_0 rfl | exact ok_fld_v rfl rfl rfl fo64_0 rfl
                  apply Walk.cons
                  · exact o_at58 rfl rfl rfl rfl (j := bitA n i) (bitA_lt n i) (Nat.zero_add _)
                  apply Walk.cons
                  · exact ok_assign rfl rfl rfl
                  exact Walk.nil _
                case hck => kernel_rfl
                case hQ =>
                  intro ρ A w1 h
                  refine Exit.block_normal (Exit.then_normal ?_)
                  apply region_dag hmix h
                  case hw =>
                    apply Walk.cons
                    · exact ok_move rfl rfl rfl
                    apply Walk.cons
                    · exact o_bin rfl rfl rfl rfl (r_addi (a := i) (b := 1) (by omega))
                    apply Walk.cons
                    · exact ok_assign rfl rfl rfl
                    exact Walk.nil _
                  case hck => kernel_rfl
                  case hQ =>
                    intro ρ A w1 h
                    exact ⟨i + 1, _, by omega, ⟨by omega, onWay_next (by rw [hq]; exact fun h => by cases h)⟩, h.plain (dnS t ids T v n b false (i + 1)) ⟨rfl, rfl, by show _ = some (AV.v (.pointer (some ⟨(ids v i (topD n i)).getD 0, bitA n i, none⟩))); rw [hq]; rfl, rfl, trivial⟩ ⟨rfl, rfl, trivial⟩ rfl⟩
structure DnX where
  i : Nat
  ids : Ids
  T : Hp
/-- what a call leaves that may have made nodes -/
structure Made (t : Nat) (M : Tab) (T : Hp) (w : World) (T' : Hp) (w' : World) : Prop where
  sub : ∀ k o, T' k = some o → hp w' k = some o
  dom : ∀ k, T' k ≠ none → T k ≠ none ∨ w.heap.size ≤ k
  keeps : Keeps { W := w, M := fun n => T n ≠ none } w'
theorem Rep.made {N : Nat} {S : St} {ρ : Pl} {T : Hp} {w : World} {a : Act} {w' : World} (h : Rep N S ρ { W := w, M := fun n => T n ≠ none } a w') {i t : Nat} {M : Tab} {T' : Hp} (hi : S.blk i = some (.ext (heapA T'))) : Made t M T w T' w' := by
  have h1 := h.mem i _ hi
  refine ⟨h1.2, fun k hk => ?_, h.keeps⟩
  have := h.own i _ hi k (by rw [h1.1]; exact hk)
  rcases this with h2 | h2
  · exact .inr h2
  · exact .inl h2
set_option maxRecDepth 20000 in
set_option maxHeartbeats 1000000 in
theorem down_yes {t : Nat} {ids : Ids} {M : Tab} {T : Hp} (hI : IsT t ids M T) (v : Bool) (n b : Nat) (hn : n < 2 ^ 128) (hp' : isPfx v n (b : Nat) = true) (w : World) (hT : ∀ k o, T k = some o → hp w k = some o) :
    Calls Try.prog 25 #[.pointer (some ⟨t, 0, none⟩), .agg (pfc v n (b : Nat)), .bool true] w fun e w' => ∃ ids' T' q, e = .returned (.pointer (some ⟨q, 0, none⟩)) ∧ IsT t ids' M T' ∧ ids' v b (topD n b) = some q ∧ Made t M T w T' w' := by
  have hb : b ≤ 128 := by
    obtain ⟨k, h1, h2, _⟩ := isPfx_nat hp'
    have := mostA_le v
    omega
  go_enter Try.func25, Try.ntmps25
  have h := Rep.startA (N := 55) (heapA T) t (fun n => T n ≠ none) [.pointer (some ⟨t, 0, none⟩), .agg (pfc v n (b : Nat)), .bool true] [undef, undef, undef, undef, undef, undef, undef, undef, undef, undef, undef, undef, undef, undef, undef, undef, undef, undef, undef, undef, undef, undef, undef, undef, undef, undef, undef, undef, undef, undef, undef, undef, undef, undef, undef, undef, undef, undef, undef, undef, undef, undef, undef, undef, undef, undef, undef, undef, undef, undef, undef, undef] w ⟨rfl, hT⟩ rfl
  apply seq_dag hmix h
  case hw =>
    apply Walk.cons
    · exact o_box31 4 rfl rfl rfl
    apply Walk.cons
    · exact ok_assign rfl rfl rfl
    exact Walk.nil _
  case hck => kernel_rfl
  case hQ =>
    intro ρ A w1 h
    apply seq_dag hmix h
    case hw =>
      apply Walk.cons
      · exact ok_move rfl rfl rfl
      apply Walk.cons
      · first | exact ok_fld rfl rfl rfl fo31_0 rfl | exact ok_fld_v rfl rfl rfl fo31_0 rfl
      apply Walk.cons
      · first | exact ok_fld rfl rfl rfl fo24_0 rfl | exact ok_fld_v rfl rfl rfl fo24_0 rfl
      apply Walk.cons
      · exact ok_load_cell rfl rfl rfl rfl one4 rfl
      apply Walk.cons
      · exact ok_call_val rfl rfl fn27 [.v _] rfl (rd := []) (fun _ w _ _ => side_any _ w)
      apply Walk.cons
      · first | exact ok_nil rfl rfl rfl | exact ok_nil_v rfl rfl rfl
      apply Walk.cons
      · first | exact ok_fld rfl rfl rfl fo60_0 rfl | exact ok_fld_v rfl rfl rfl fo60_0 rfl
      apply Walk.cons
      · exact o_at58 rfl rfl rfl rfl (j := if v then 1 else 0) (by cases v <;> decide) (Nat.zero_add _)
      apply Walk.cons
      · exact ok_assign rfl rfl rfl
      exact Walk.nil _
    case hck => kernel_rfl
    case hQ =>
      intro ρ A w1 h
      apply seq_dag hmix h
      case hw =>
        apply Walk.cons
        · exact ok_assign rfl rfl rfl
        exact Walk.nil _
      case hck => kernel_rfl
      case hQ =>
        intro ρ A w1 h
        have h := h.plain (dnS t ids T v n b true 0) ⟨rfl, rfl, rfl, rfl, trivial⟩ ⟨rfl, rfl, trivial⟩ rfl
        refine wp_block ?_
        refine rep_loop_by (fun (x : DnX) => b - x.i) (fun (x : DnX) => dnS t x.ids x.T v n b true x.i) (fun (x : DnX) => x.i ≤ b ∧ onWay x.ids v n x.i ∧ IsT t x.ids M x.T) ⟨0, ids, T⟩ ⟨Nat.zero_le _, onWay_zero _ _ _, hI⟩ h ?_
        clear h hI
        rintro ⟨i, ids, T1⟩ ρ A w2 ⟨hi, hway, hI⟩ h
        simp only at hi hway hI h
        refine wp_seq (wp_block ?_)
        refine wp_seq ?_
        refine wp_mono (Q := fun e a w3 => e = .normal ∧ ∃ ids' T' q ρ, IsT t ids' M T' ∧ onWay ids' v n i ∧ ids' v i (topD n i) = some q ∧ Rep 55 (dnS t ids' T' v n b true i) ρ { W := w, M := fun n => T n ≠ none } a w3) ?_ ?_
        · obtain ⟨cs, ty, hc1, hc2, hc3⟩ := hI.cell hn hway (by omega)
          cases hq : ids v i (topD n i) with
          | some q =>
            rw [hq] at hc3
            apply seq_dag hmix h
            case hw =>
              apply Walk.cons
              · exact ok_move rfl rfl rfl
              apply Walk.cons
              · first | exact ok_nil rfl rfl rfl | exact ok_nil_v rfl rfl rfl
              apply Walk.cons
              · exact ok_hload rfl rfl (i := 0) rfl rfl hc1 one57 hc3
              apply Walk.cons
              · exact ok_pure rfl (by kernel_rfl) (v := .bool false) (fun w => by kernel_rfl)
              exact Walk.nil _
            case hck => kernel_rfl
            case hQ =>
              intro ρ A w1 h
              refine if_false' h rfl (wp_skip ?_)
              exact ⟨rfl, ids, T1, q, _, hI, hway, hq, h.plain _ ⟨rfl, rfl, rfl, rfl, trivial⟩ ⟨rfl, rfl, trivial⟩ rfl⟩
          | none =>
            rw [hq] at hc3
            apply seq_dag hmix h
            case hw =>
              apply Walk.cons
              · exact ok_move rfl rfl rfl
              apply Walk.cons
              · first | exact ok_nil rfl rfl rfl | exact ok_nil_v rfl rfl rfl
              apply Walk.cons
              · exact ok_hload rfl rfl (i := 0) rfl rfl hc1 one57 hc3
              apply Walk.cons
              · exact ok_pure rfl (by kernel_rfl) (v := .bool true) (fun w => by kernel_rfl)
              exact Walk.nil _
            case hck => kernel_rfl
            case hQ =>
              intro ρ A w1 h
              refine if_true' h rfl ?_
              refine wp_seq ?_
              apply seq_dag hmix h
              case hw =>
                apply Walk.cons
                · exact ok_move rfl rfl rfl
                apply Walk.cons
                · exact ok_not rfl rfl rfl rfl
                exact Walk.nil _
              case hck => kernel_rfl
              case hQ =>
                intro ρ A w1 h
                refine if_false' h rfl (wp_skip (Exit.then_normal ?_))
                apply seq_dag hmix h
                case hw =>
                  apply Walk.cons
                  · first | exact ok_fld rfl rfl rfl fo31_0 rfl | exact ok_fld_v rfl rfl rfl fo31_0 rfl
                  apply Walk.cons
                  · first | exact o_load24 rfl rfl rfl rfl | exact o_load24p rfl rfl rfl rfl
                  apply Walk.cons
                  · exact ok_move rfl rfl rfl
                  apply Walk.cons
                  · exact o_built rfl rfl (by kernel_rfl) (v := .agg (pfc v n (i : Nat))) (fun w => by kernel_rfl)
                  apply Walk.cons
                  · exact ok_call_val rfl rfl fn14 [.v _] rfl (rd := []) (fun _ w _ _ => whole_ok v n i hn (isPfx_le hp' hi) w)
                  apply Walk.cons
                  · exact o_alloc31 9 rfl rfl
                  apply Walk.cons
                  · exact o_store31 rfl rfl rfl rfl rfl
                  exact Walk.nil _
                case hck => kernel_rfl
                case hQ =>
                  intro ρ A w1 h
                  refine last_list ?_
                  refine wpl_step h rfl (ok_move rfl rfl rfl) rfl rfl rfl rfl ?_
                  intro ρ A w3 h
                  refine wpl_step h rfl (ok_fld rfl rfl rfl fo31_0 rfl) rfl rfl rfl rfl ?_
                  intro ρ A w3 h
                  refine wpl_step h rfl (o_load24p rfl rfl rfl rfl) rfl rfl rfl rfl ?_
                  intro ρ A w3 h
                  refine wpl_step h rfl (ok_move rfl rfl rfl) rfl rfl rfl rfl ?_
                  intro ρ A w3 h
                  refine wpl_step h rfl (o_built rfl rfl (by kernel_rfl) (v := .agg (ndc (.pointer none) (.pointer none) none v (topN n i) (i : Nat))) (fun w => by kernel_rfl)) rfl rfl rfl rfl ?_
                  intro ρ A w3 h
                  refine wpl_step h rfl (ok_box 36 rfl rfl rfl rfl (cs := ndc (.pointer none) (.pointer none) none v (topN n i) (i : Nat))) rfl rfl rfl rfl ?_
                  intro ρ A w3 h
                  obtain ⟨hTq, h⟩ := h.absorb (i := 0) (j := 36) (T := T1) (cs := ndc (.pointer none) (.pointer none) none v (topN n i) (i : Nat)) (ty := 64) rfl rfl
                    [(31, .v (.pointer (some ⟨(locB t ids v n i).1, (locB t ids v n i).2, none⟩))), (36, .v (.pointer (some ⟨ρ.num 36, 0, none⟩))), (2, .v (.bool true)), (4, .p 4 0), (7, .v (.pointer (some ⟨(locB t ids v n i).1, (locB t ids v n i).2, none⟩))), (8, .v (.int .i64 (i : Nat)))] [(4, .mk (pfc v n (b : Nat)) 31)]
                    ⟨.inl ⟨rfl, by simp [AV.v]⟩, .inr ⟨0, rfl, rfl⟩, .inl ⟨rfl, by simp [AV.v]⟩, .inl ⟨rfl, by simp [AV.p]⟩, .inl ⟨rfl, by simp [AV.v]⟩, .inl ⟨rfl, by simp [AV.v]⟩, trivial⟩ ⟨rfl, trivial⟩ rfl rfl rfl
                  have hgr := hI.grow hn hway (by omega) hq hTq hc1
                  have hne : (locB t ids v n i).1 ≠ ρ.num 36 := fun e => by rw [← e, hc1] at hTq; cases hTq
                  have hcell := (Hp.set_ne T1 (cobj (ndc (.pointer none) (.pointer none) none v (topN n i) (i : Nat)) 64) hne).trans hc1
                  refine wpl_step h rfl (ok_nil_v rfl rfl rfl) rfl rfl rfl rfl ?_
                  intro ρ A w3 h
                  refine wpl_step h rfl (ok_hstore rfl rfl (i := 0) rfl rfl rfl hcell sz57 rfl hc2 rfl) rfl rfl rfl rfl ?_
                  intro ρ A w3 h
                  refine wpList_nil ?_
                  rw [Hp.set_comm _ _ _ hne] at hgr
                  refine ⟨rfl, _, _, _, _, hgr, onWay_upd hway, updK_same _ _ _ _ _, h.plain _ ⟨rfl, rfl, ?_, rfl, trivial⟩ ⟨rfl, rfl, trivial⟩ rfl⟩
                  rw [locB_upd]; rfl
        clear h hI hway
        rintro e a w3 ⟨rfl, ids', T', q, ρ, hI, hway, hq, h⟩
        refine Exit.then_normal ?_
        obtain ⟨cs, ty, hc1, hc2, hc3⟩ := hI.cell hn hway (by omega)
        rw [hq] at hc3
        refine wp_seq ?_
        by_cases hib : i = b
        · subst hib
          apply seq_dag hmix h
          case hw =>
            apply Walk.cons
            · exact ok_move rfl rfl rfl
            apply Walk.cons
            · first | exact ok_fld rfl rfl rfl fo31_1 rfl | exact ok_fld_v rfl rfl rfl fo31_1 rfl
            apply Walk.cons
            · exact ok_load_cell rfl rfl rfl rfl one3 rfl
            apply Walk.cons
            · exact o_bin rfl rfl rfl rfl (r_eqli (a := i) (b := i) (decide_eq_true rfl))
            exact Walk.nil _
          case hck => kernel_rfl
          case hQ =>
            intro ρ A w1 h
            refine if_true' h rfl ?_
            apply seq_dag hmix h
            case hw =>
              apply Walk.cons
              · exact ok_move rfl rfl rfl
              apply Walk.cons
              · first | exact ok_nil rfl rfl rfl | exact ok_nil_v rfl rfl rfl
              apply Walk.cons
              · exact ok_hload rfl rfl (i := 0) rfl rfl hc1 one57 hc3
              apply Walk.cons
              · exact ok_assign rfl rfl rfl
              exact Walk.nil _
            case hck => kernel_rfl
            case hQ =>
              intro ρ A w1 h
              refine wp_ret ?_
              repeat (first | refine Exit.thenRet ?_ | refine Exit.blockRet ?_)
              refine h.result_tmp Try.results25 rfl ?_
              exact ⟨ids', T', q, rfl, hI, hq, h.made (i := 0) rfl⟩
        · apply seq_dag hmix h
          case hw =>
            apply Walk.cons
            · exact ok_move rfl rfl rfl
            apply Walk.cons
            · first | exact ok_fld rfl rfl rfl fo31_1 rfl | exact ok_fld_v rfl rfl rfl fo31_1 rfl
            apply Walk.cons
            · exact ok_load_cell rfl rfl rfl rfl one3 rfl
            apply Walk.cons
            · exact o_bin rfl rfl rfl rfl (r_eqli (a := i) (b := b) (decide_eq_false hib))
            exact Walk.nil _
          case hck => kernel_rfl
          case hQ =>
            intro ρ A w1 h
            refine if_false' h rfl (wp_skip (Exit.then_normal ?_))
            apply region_dag hmix h
            case hw =>
              apply Walk.cons
              · exact ok_move rfl rfl rfl
              apply Walk.cons
              · first | exact ok_nil rfl rfl rfl | exact ok_nil_v rfl rfl rfl
              apply Walk.cons
              · exact ok_hload rfl rfl (i := 0) rfl rfl hc1 one57 hc3
              apply Walk.cons
              · first | exact ok_fld rfl rfl rfl fo31_0 rfl | exact ok_fld_v rfl rfl rfl fo31_0 rfl
              apply Walk.cons
              · first | exact o_load24 rfl rfl rfl rfl | exact o_load24p rfl rfl rfl rfl
              apply Walk.cons
              · exact ok_move rfl rfl rfl
              apply Walk.cons
              · exact ok_call_val rfl rfl fn28 [.v _, .v _] rfl (rd := []) (fun _ w _ _ => bit_any v n i (by omega) w)
              apply Walk.cons
              · first | exact ok_nil rfl rfl rfl | exact ok_nil_v rfl rfl rfl
              apply Walk.cons
              · first | exact ok_fld rfl rfl rfl fo64_0 rfl | exact ok_fld_v rfl rfl rfl fo64_0 rfl
              apply Walk.cons
              · exact o_at58 rfl rfl rfl rfl (j := bitA n i) (bitA_lt n i) (Nat.zero_add _)
              apply Walk.cons
              · exact ok_assign rfl rfl rfl
              exact Walk.nil _
            case hck => kernel_rfl
            case hQ =>
              intro ρ A w1 h
              refine Exit.block_normal (Exit.then_normal ?_)
              apply region_dag hmix h
              case hw =>
                apply Walk.cons
                · exact ok_move rfl rfl rfl
                apply Walk.cons
                · exact o_bin rfl rfl rfl rfl (r_addi (a := i) (b := 1) (by omega))
                apply Walk.cons
                · exact ok_assign rfl rfl rfl
                exact Walk.nil _
              case hck => kernel_rfl
              case hQ =>
                intro ρ A w1 h
                have hnn : ids' v i (topD n i) ≠ none := by rw [hq]; exact fun h => by cases h
                exact ⟨⟨i + 1, ids', T'⟩, _, by simp only; omega, ⟨by simp only; omega, onWay_next hnn, hI⟩, h.plain (dnS t ids' T' v n b true (i + 1)) ⟨rfl, rfl, by show _ = some (AV.v (.pointer (some ⟨(ids' v i (topD n i)).getD 0, bitA n i, none⟩))); rw [hq]; rfl, rfl, trivial⟩ ⟨rfl, rfl, trivial⟩ rfl⟩
end Go.Proofs.Ytnppgaohfegloaa
