/-
  The walk of Find: the longest prefix of an address that is somebody's; and of Drop.
-/
import Derived.Test.YtnppgaohfegloaaTable
namespace Go.Proofs.Ytnppgaohfegloaa
open Go.RowKit

theorem most4 : mostA false = 32 := rfl
theorem most6 : mostA true = 128 := rfl
def unborn (ops : Array Oper) (S : St) (o : Oper) : Bool :=
  match o.guard with
  | none => false
  | some (g, _) => match ((ops[g]?).bind (·.dst)).bind S.slot with
    | some av => match av.id?, av.val 0 with
      | none, .tuple _ => true
      | _, _ => false
    | none => false
/-- one that is passed over, for what it hangs on was passed over -/
theorem ok_skip_u {P : Program} {F : Fr} {ops : Array Oper} {S : St} {o : Oper} (hu : unborn ops S o = true) : OpOK P F ops o S { val := .v undef } := by
  intro ρ a w Q K h1 _ _ h4
  have hw : Region.wanted o (yielded ops a.tmps) = false := by
    unfold unborn at hu
    unfold Region.wanted
    cases hg : o.guard with
    | none => simp [hg] at hu
    | some gb =>
      obtain ⟨g, b⟩ := gb
      simp only [hg] at hu
      cases hd : (ops[g]?).bind (·.dst) with
      | none => simp [hd] at hu
      | some d =>
        simp only [hd, Option.bind_some] at hu
        cases hs : S.slot d with
        | none => simp [hs] at hu
        | some av =>
          simp only [hs] at hu
          have hm : d ∈ o.looksAt ops := List.mem_append_right _ (by simp [hg, hd])
          have hv := h1 d hm av hs
          obtain ⟨i, f⟩ := av
          cases i with
          | some i => simp at hu
          | none =>
            simp only at hu
            cases hf : f 0 with
            | tuple c =>
              have : yielded ops a.tmps g = none := by
                unfold yielded
                rw [hd]
                simp [hv, AV.to, hf]
              simp [this]
            | _ => simp [hf] at hu
  rw [hw]
  simp only [Bool.false_eq_true, if_false]
  exact h4 _ _ nw0 ⟨rfl, rfl, rfl, rfl, Nat.le_refl _, fun _ _ _ => rfl, (fun _ h => by cases h), (fun _ h => by cases h), (fun _ _ h => by cases h)⟩
theorem wp_fold {P : Program} {c : Code} {a : Act} {w : World} {Q : Exit → Act → World → Prop} (J : Act → World → Prop) (h : c.wp P (Exit.then J Q) a w) (hJ : ∀ a w, J a w → Q .normal a w) : c.wp P Q a w :=
  wp_mono h fun e a w hq => by
    cases e with
    | normal => exact hJ _ _ hq
    | exit id => exact hq
    | goto l => exact hq
    | ret => exact hq
    | panic ch => exact hq
    | outgrown => exact hq
theorem Exit.thenExit {Q : Exit → Act → World → Prop} {K : Act → World → Prop} {a : Act} {w : World} {i : Nat} (h : Q (.exit i) a w) : Exit.then K Q (.exit i) a w := by simpa [Exit.then] using h
theorem Exit.blockExitNe {Q : Exit → Act → World → Prop} {a : Act} {w : World} {i j : Nat} (hij : j ≠ i) (h : Q (.exit j) a w) : Exit.inBlock i Q (.exit j) a w := by simpa [Exit.inBlock, hij] using h
theorem Exit.blockExit {Q : Exit → Act → World → Prop} {a : Act} {w : World} {i : Nat} (h : Q .normal a w) : Exit.inBlock i Q (.exit i) a w := by simpa [Exit.inBlock] using h
/-- the longest prefix of fewer than i bits -/
def Tab.bestTo (M : Tab) (v : Bool) (n : Nat) : Nat → Option (Nat × Int)
  | 0 => none
  | i + 1 => match M.own v i (topD n i) with
    | some o => some (i, o)
    | none => M.bestTo v n i
def Tab.find (M : Tab) (v : Bool) (n : Nat) : Option (Nat × Int) := M.bestTo v n (mostA v + 1)
theorem bestTo_some {M : Tab} {v : Bool} {n i : Nat} {o : Int} (h : M.own v i (topD n i) = some o) : M.bestTo v n (i + 1) = some (i, o) := by rw [Tab.bestTo, h]
theorem bestTo_none {M : Tab} {v : Bool} {n i : Nat} (h : M.own v i (topD n i) = none) : M.bestTo v n (i + 1) = M.bestTo v n i := by rw [Tab.bestTo, h]
theorem bestTo_more {M : Tab} {v : Bool} {n i : Nat} (k : Nat) (h : ∀ j, i ≤ j → j < k → M.own v j (topD n j) = none) (hik : i ≤ k) : M.bestTo v n k = M.bestTo v n i := by
  induction k with
  | zero => obtain rfl : i = 0 := by omega
            rfl
  | succ k ih =>
    by_cases e : i = k + 1
    · rw [e]
    · rw [bestTo_none (h k (by omega) (by omega)), ih (fun j h1 h2 => h j h1 (by omega)) (by omega)]
def acO : Option (Nat × Int) → Int
  | some x => x.2
  | none => 0
def acP (v : Bool) (n : Nat) : Option (Nat × Int) → Bool × Nat × Int
  | some x => (v, topN n x.1, (x.1 : Nat))
  | none => (false, 0, 0)
def acC (x : Bool × Nat × Int) : Array Value := pfc x.1 x.2.1 x.2.2
def fdRes (v : Bool) (n : Nat) (a : Option (Nat × Int)) : Value := .tuple #[.int .i64 (acO a), .agg (acC (acP v n a)), .bool a.isSome]
theorem kid_of (ids : Ids) (M : Tab) (v : Bool) (n i : Nat) (hi : i < 128) : (nodeC ids M v i (topD n i))[bitA n i]? = some (ptrOf (ids v (i + 1) (topD n (i + 1)))) := by
  rw [topD_next n i hi]
  have hb := bitA_lt n i
  generalize bitA n i = c at *
  have : c = 0 ∨ c = 1 := by omega
  rcases this with rfl | rfl <;> rfl
theorem nodeC_adc (ids : Ids) (M : Tab) (v : Bool) (n i : Nat) : ∀ k, k < 17 → (nodeC ids M v i (topD n i))[0 + 3 + 1 + k]? = (adc v (topN n i))[k]? := ndc_adc _ _ _ _ _ _
theorem find_no {t : Nat} {f : Nat → Prop} {M : Tab} (v : Bool) (n : Nat) (hv : validA v n = false) (w : World) (hA : (tabA M).holds t f (hp w)) :
    Calls Try.prog 11 #[.pointer (some ⟨t, 0, none⟩), .agg (adc v n)] w fun e w' => e = .returned (fdRes v n none) ∧ Below w.heap.size w w' := by
  have hval : ∀ w, Calls Try.prog 26 #[.agg (adc v n)] w fun e w' => e = .returned (.bool false) ∧ Below w.heap.size w w' := fun w => hv ▸ valid_any v n w
  obtain ⟨ids, T, hI, hf, hT⟩ := hA
  subst hf
  go_enter Try.func11, Try.ntmps11
  have h := Rep.startA (N := 78) (heapA T) t (fun n => T n ≠ none) [.pointer (some ⟨t, 0, none⟩), .agg (adc v n)] [undef, undef, undef, undef, undef, undef, undef, undef, undef, undef, undef, undef, undef, undef, undef, undef, undef, undef, undef, undef, undef, undef, undef, undef, undef, undef, undef, undef, undef, undef, undef, undef, undef, undef, undef, undef, undef, undef, undef, undef, undef, undef, undef, undef, undef, undef, undef, undef, undef, undef, undef, undef, undef, undef, undef, undef, undef, undef, undef, undef, undef, undef, undef, undef, undef, undef, undef, undef, undef, undef, undef, undef, undef, undef, undef, undef] w ⟨rfl, hT⟩ rfl
  apply seq_dag hmix h
  case hw =>
    apply Walk.cons
    · exact o_box24 3 rfl rfl rfl
    apply Walk.cons
    · exact ok_assign rfl rfl rfl
    apply Walk.cons
    · exact o_alloc31 5 rfl rfl
    apply Walk.cons
    · exact ok_assign rfl rfl rfl
    exact Walk.nil _
  case hck => kernel_rfl
  case hQ =>
    intro ρ A w1 h
    apply seq_dag hmix h
    case hw =>
      apply Walk.cons
      · exact ok_assign rfl rfl rfl
      exact Walk.nil _
    case hck => kernel_rfl
    case hQ =>
      intro ρ A w1 h
      apply seq_dag hmix h
      case hw =>
        apply Walk.cons
        · exact o_alloc31 8 rfl rfl
        exact Walk.nil _
      case hck => kernel_rfl
      case hQ =>
        intro ρ A w1 h
        apply seq_dag hmix h
        case hw =>
          apply Walk.cons
          · exact ok_assign rfl rfl rfl
          exact Walk.nil _
        case hck => kernel_rfl
        case hQ =>
          intro ρ A w1 h
          refine wp_seq ?_
          apply seq_dag hmix h
          case hw =>
            apply Walk.cons
            · exact ok_move rfl rfl rfl
            apply Walk.cons
            · exact ok_pure rfl (by kernel_rfl) (v := .bool false) (fun w => by kernel_rfl)
            apply Walk.cons
            · exact ok_move rfl rfl rfl
            apply Walk.cons
            · first | exact ok_skip rfl | exact ok_skip_u rfl | exact o_load24 rfl rfl rfl rfl | exact o_load24p rfl rfl rfl rfl
            apply Walk.cons
            · exact ok_call_val rfl rfl fn26 [.v _] rfl (rd := []) (fun _ w _ _ => hval w)
            apply Walk.cons
            · first | exact ok_skip rfl | exact ok_skip_u rfl | exact ok_not rfl rfl rfl rfl
            apply Walk.cons
            · first | exact ok_pick_true rfl rfl rfl rfl | exact ok_pick_false rfl rfl rfl rfl
            exact Walk.nil _
          case hck => kernel_rfl
          case hQ =>
            intro ρ A w1 h
            refine if_true' h rfl ?_
            apply seq_dag hmix h
            case hw =>
              apply Walk.cons
              · exact ok_move rfl rfl rfl
              apply Walk.cons
              · first | exact o_load31 rfl rfl rfl rfl | exact o_load31op rfl rfl rfl rfl
              apply Walk.cons
              · exact ok_assign rfl rfl rfl
              apply Walk.cons
              · exact o_store31 rfl rfl rfl rfl rfl
              apply Walk.cons
              · exact ok_assign rfl rfl rfl
              exact Walk.nil _
            case hck => kernel_rfl
            case hQ =>
              intro ρ A w1 h
              refine wp_ret ?_
              repeat (first | refine Exit.thenRet ?_ | refine Exit.blockRet ?_)
              refine h.result_tct Try.results11 rfl rfl rfl agg31 sz31 rfl rfl ?_
              exact ⟨rfl, h.below_of (i := 0) rfl (fun _ h => h) hT⟩
def fiS (v : Bool) (n : Nat) (ids : Ids) (T : Hp) (a : Option (Nat × Int)) (i : Nat) : St :=
  ⟨[(3, .p 3 0), (5, .p 5 0), (7, .v (.int .i64 (acO a))), (8, .p 8 0), (9, .v (.bool a.isSome)), (10, .v (ptrOf (ids v i (topD n i))))], [(0, .ext (heapA T)), (3, .mk (adc v n) 24), (5, .mk (pfc false 0 0) 31), (8, .mk (acC (acP v n a)) 31)]⟩
set_option maxRecDepth 20000 in
set_option maxHeartbeats 2000000 in
theorem find_yes {t : Nat} {f : Nat → Prop} {M : Tab} (v : Bool) (n : Nat) (hn : n < 2 ^ 128) (hv : validA v n = true) (w : World) (hA : (tabA M).holds t f (hp w)) :
    Calls Try.prog 11 #[.pointer (some ⟨t, 0, none⟩), .agg (adc v n)] w fun e w' => e = .returned (fdRes v n (M.find v n)) ∧ Below w.heap.size w w' := by
  have hval : ∀ w, Calls Try.prog 26 #[.agg (adc v n)] w fun e w' => e = .returned (.bool true) ∧ Below w.heap.size w w' := fun w => hv ▸ valid_any v n w
  obtain ⟨ids, T, hI, hf, hT⟩ := hA
  subst hf
  go_enter Try.func11, Try.ntmps11
  have h := Rep.startA (N := 78) (heapA T) t (fun n => T n ≠ none) [.pointer (some ⟨t, 0, none⟩), .agg (adc v n)] [undef, undef, undef, undef, undef, undef, undef, undef, undef, undef, undef, undef, undef, undef, undef, undef, undef, undef, undef, undef, undef, undef, undef, undef, undef, undef, undef, undef, undef, undef, undef, undef, undef, undef, undef, undef, undef, undef, undef, undef, undef, undef, undef, undef, undef, undef, undef, undef, undef, undef, undef, undef, undef, undef, undef, undef, undef, undef, undef, undef, undef, undef, undef, undef, undef, undef, undef, undef, undef, undef, undef, undef, undef, undef, undef, undef] w ⟨rfl, hT⟩ rfl
  apply seq_dag hmix h
  case hw =>
    apply Walk.cons
    · exact o_box24 3 rfl rfl rfl
    apply Walk.cons
    · exact ok_assign rfl rfl rfl
    apply Walk.cons
    · exact o_alloc31 5 rfl rfl
    apply Walk.cons
    · exact ok_assign rfl rfl rfl
    exact Walk.nil _
  case hck => kernel_rfl
  case hQ =>
    intro ρ A w1 h
    apply seq_dag hmix h
    case hw =>
      apply Walk.cons
      · exact ok_assign rfl rfl rfl
      exact Walk.nil _
    case hck => kernel_rfl
    case hQ =>
      intro ρ A w1 h
      apply seq_dag hmix h
      case hw =>
        apply Walk.cons
        · exact o_alloc31 8 rfl rfl
        exact Walk.nil _
      case hck => kernel_rfl
      case hQ =>
        intro ρ A w1 h
        apply seq_dag hmix h
        case hw =>
          apply Walk.cons
          · exact ok_assign rfl rfl rfl
          exact Walk.nil _
        case hck => kernel_rfl
        case hQ =>
          intro ρ A w1 h
          refine wp_seq ?_
          apply seq_dag hmix h
          case hw =>
            apply Walk.cons
            · exact ok_move rfl rfl rfl
            apply Walk.cons
            · exact ok_pure rfl (by kernel_rfl) (v := .bool false) (fun w => by kernel_rfl)
            apply Walk.cons
            · exact ok_move rfl rfl rfl
            apply Walk.cons
            · first | exact ok_skip rfl | exact ok_skip_u rfl | exact o_load24 rfl rfl rfl rfl | exact o_load24p rfl rfl rfl rfl
            apply Walk.cons
            · exact ok_call_val rfl rfl fn26 [.v _] rfl (rd := []) (fun _ w _ _ => hval w)
            apply Walk.cons
            · first | exact ok_skip rfl | exact ok_skip_u rfl | exact ok_not rfl rfl rfl rfl
            apply Walk.cons
            · first | exact ok_pick_true rfl rfl rfl rfl | exact ok_pick_false rfl rfl rfl rfl
            exact Walk.nil _
          case hck => kernel_rfl
          case hQ =>
            intro ρ A w1 h
            refine if_false' h rfl (wp_skip (Exit.then_normal ?_))
            refine wp_seq ?_
            have hroot : (tabC ids M)[if v then 1 else 0]? = some (ptrOf (ids v 0 (topD n 0))) := by
              rw [topD_zero hn]
              cases v <;> rfl
            apply seq_dag hmix h
            case hw =>
              apply Walk.cons
              · exact ok_move rfl rfl rfl
              apply Walk.cons
              · first | exact ok_fld rfl rfl rfl fo24_0 rfl | exact ok_fld_v rfl rfl rfl fo24_0 rfl
              apply Walk.cons
              · exact ok_load_cell rfl rfl rfl rfl one4 rfl
              apply Walk.cons
              · exact ok_call_val rfl rfl fn27 [.v _] rfl (rd := []) (fun _ w _ _ => side_any _ w)
              apply Walk.cons
              · first | exact ok_nil rfl rfl rfl | exact ok_nil_v rfl rfl rfl
              apply Walk.cons
              · first | exact ok_fld rfl rfl rfl fo60_0 rfl | exact ok_fld_v rfl rfl rfl fo60_0 rfl
              apply Walk.cons
              · exact o_at58 rfl rfl rfl rfl (j := if v then 1 else 0) (by cases v <;> decide) (Nat.zero_add _)
              apply Walk.cons
              · exact ok_hload rfl rfl (i := 0) rfl rfl hI.root one57 hroot
              apply Walk.cons
              · exact ok_assign rfl rfl rfl
              exact Walk.nil _
            case hck => kernel_rfl
            case hQ =>
              intro ρ A w1 h
              have h := h.plain (fiS v n ids T none 0) ⟨rfl, rfl, rfl, rfl, rfl, rfl, trivial⟩ ⟨rfl, rfl, rfl, rfl, trivial⟩ rfl
              refine wp_block ?_
              refine rep_loop_by (fun i => 129 - i) (fun i => fiS v n ids T (M.bestTo v n i) i) (fun i => i ≤ mostA v) 0 (Nat.zero_le _) h ?_
              clear h
              rintro i ρ A w2 hi h
              have hm := mostA_le v
              refine wp_seq ?_
              generalize hac : M.bestTo v n i = ac at h
              cases hq : ids v i (topD n i) with
              | none =>
                have hown : ∀ j, i ≤ j → j < mostA v + 1 → M.own v j (topD n j) = none := fun j h1 h2 => by
                  cases ho : M.own v j (topD n j) with
                  | none => rfl
                  | some o => exact absurd (hI.none_on hq j h1 (by omega)) (hI.has _ _ _ (by rw [ho]; exact fun h => by cases h))
                have hbest : M.find v n = ac := by rw [Tab.find, bestTo_more _ hown (by omega), hac]
                have h := h.plain ⟨[(3, .p 3 0), (5, .p 5 0), (7, .v (.int .i64 (acO ac))), (8, .p 8 0), (9, .v (.bool ac.isSome)), (10, .v (.pointer none))], [(0, .ext (heapA T)), (3, .mk (adc v n) 24), (5, .mk (pfc false 0 0) 31), (8, .mk (acC (acP v n ac)) 31)]⟩ ⟨rfl, rfl, rfl, rfl, rfl, (by rw [← show ptrOf (ids v i (topD n i)) = .pointer none by rw [hq]; rfl]; rfl), trivial⟩ ⟨rfl, rfl, rfl, rfl, trivial⟩ rfl
                apply seq_dag hmix h
                case hw =>
                  apply Walk.cons
                  · exact ok_move rfl rfl rfl
                  apply Walk.cons
                  · exact ok_pure rfl (by kernel_rfl) (v := .bool false) (fun w => by kernel_rfl)
                  exact Walk.nil _
                case hck => kernel_rfl
                case hQ =>
                  intro ρ A w1 h
                  refine if_false' h rfl (wp_exit (at_exit' ?_))
                  refine Exit.then_normal ?_
                  rw [← hbest] at h
                  apply seq_dag hmix h
                  case hw =>
                    apply Walk.cons
                    · exact ok_move rfl rfl rfl
                    apply Walk.cons
                    · exact o_load31 rfl rfl rfl rfl
                    apply Walk.cons
                    · exact ok_move rfl rfl rfl
                    apply Walk.cons
                    · exact ok_assign rfl rfl rfl
                    apply Walk.cons
                    · exact o_store31 rfl rfl rfl rfl rfl
                    apply Walk.cons
                    · exact ok_assign rfl rfl rfl
                    exact Walk.nil _
                  case hck => kernel_rfl
                  case hQ =>
                    intro ρ A w1 h
                    refine wp_ret ?_
                    repeat (first | refine Exit.thenRet ?_ | refine Exit.blockRet ?_)
                    refine h.result_tct Try.results11 rfl rfl rfl agg31 sz31 rfl rfl ?_
                    exact ⟨rfl, h.below_of (i := 0) rfl (fun _ h => h) hT⟩
              | some q =>
                have hnode := hI.node _ _ _ _ hq
                have hadc := nodeC_adc ids M v n i
                have h := h.plain ⟨[(3, .p 3 0), (5, .p 5 0), (7, .v (.int .i64 (acO ac))), (8, .p 8 0), (9, .v (.bool ac.isSome)), (10, .v (.pointer (some ⟨q, 0, none⟩)))], [(0, .ext (heapA T)), (3, .mk (adc v n) 24), (5, .mk (pfc false 0 0) 31), (8, .mk (acC (acP v n ac)) 31)]⟩ ⟨rfl, rfl, rfl, rfl, rfl, (by rw [← show ptrOf (ids v i (topD n i)) = .pointer (some ⟨q, 0, none⟩) by rw [hq]; rfl]; rfl), trivial⟩ ⟨rfl, rfl, rfl, rfl, trivial⟩ rfl
                apply seq_dag hmix h
                case hw =>
                  apply Walk.cons
                  · exact ok_move rfl rfl rfl
                  apply Walk.cons
                  · exact ok_pure rfl (by kernel_rfl) (v := .bool true) (fun w => by kernel_rfl)
                  exact Walk.nil _
                case hck => kernel_rfl
                case hQ =>
                  intro ρ A w1 h
                  refine if_true' h rfl (wp_skip (Exit.then_normal ?_))
                  refine wp_seq (wp_block ?_)
                  refine wp_seq ?_
                  refine wp_join (fun a w3 => ∃ ac2 ρ, M.bestTo v n (i + 1) = ac2 ∧ Rep 78 ⟨[(3, .p 3 0), (5, .p 5 0), (7, .v (.int .i64 (acO ac2))), (8, .p 8 0), (9, .v (.bool ac2.isSome)), (10, .v (.pointer (some ⟨q, 0, none⟩)))], [(0, .ext (heapA T)), (3, .mk (adc v n) 24), (5, .mk (pfc false 0 0) 31), (8, .mk (acC (acP v n ac2)) 31)]⟩ ρ { W := w, M := fun n => T n ≠ none } a w3) ?_ ?_
                  · cases ho : M.own v i (topD n i) with
                    | none =>
                      have howned : (nodeC ids M v i (topD n i))[2]? = some (.bool false) := by
                        show some (Value.bool (M.own v i (topD n i)).isSome) = _
                        rw [ho]; rfl
                      apply seq_dag hmix h
                      case hw =>
                        apply Walk.cons
                        · exact ok_move rfl rfl rfl
                        apply Walk.cons
                        · first | exact ok_nil rfl rfl rfl | exact ok_nil_v rfl rfl rfl
                        apply Walk.cons
                        · first | exact ok_fld rfl rfl rfl fo64_1 rfl | exact ok_fld_v rfl rfl rfl fo64_1 rfl
                        apply Walk.cons
                        · exact ok_hload rfl rfl (i := 0) rfl rfl hnode one4 howned
                        exact Walk.nil _
                      case hck => kernel_rfl
                      case hQ =>
                        intro ρ A w1 h
                        refine if_false' h rfl (wp_skip (Exit.then_normal ?_))
                        exact ⟨ac, _, by rw [bestTo_none ho, hac], h.plain _ ⟨rfl, rfl, rfl, rfl, rfl, rfl, trivial⟩ ⟨rfl, rfl, rfl, rfl, trivial⟩ rfl⟩
                    | some o =>
                      have howned : (nodeC ids M v i (topD n i))[2]? = some (.bool true) := by
                        show some (Value.bool (M.own v i (topD n i)).isSome) = _
                        rw [ho]; rfl
                      have howner : (nodeC ids M v i (topD n i))[3]? = some (.int .i64 o) := by
                        show some (Value.int .i64 ((M.own v i (topD n i)).getD 0)) = _
                        rw [ho]; rfl
                      apply seq_dag hmix h
                      case hw =>
                        apply Walk.cons
                        · exact ok_move rfl rfl rfl
                        apply Walk.cons
                        · first | exact ok_nil rfl rfl rfl | exact ok_nil_v rfl rfl rfl
                        apply Walk.cons
                        · first | exact ok_fld rfl rfl rfl fo64_1 rfl | exact ok_fld_v rfl rfl rfl fo64_1 rfl
                        apply Walk.cons
                        · exact ok_hload rfl rfl (i := 0) rfl rfl hnode one4 howned
                        exact Walk.nil _
                      case hck => kernel_rfl
                      case hQ =>
                        intro ρ A w1 h
                        refine if_true' h rfl ?_
                        apply region_dag hmix h
                        case hw =>
                          apply Walk.cons
                          · exact ok_move rfl rfl rfl
                          apply Walk.cons
                          · first | exact ok_nil rfl rfl rfl | exact ok_nil_v rfl rfl rfl
                          apply Walk.cons
                          · first | exact ok_fld rfl rfl rfl fo64_2 rfl | exact ok_fld_v rfl rfl rfl fo64_2 rfl
                          apply Walk.cons
                          · exact ok_hload rfl rfl (i := 0) rfl rfl hnode one3 howner
                          apply Walk.cons
                          · exact ok_move rfl rfl rfl
                          apply Walk.cons
                          · first | exact ok_nil rfl rfl rfl | exact ok_nil_v rfl rfl rfl
                          apply Walk.cons
                          · exact ok_fld_v rfl rfl rfl fo64_3 rfl
                          apply Walk.cons
                          · exact ok_hload_part rfl rfl (i := 0) rfl rfl hnode agg24 sz24 rfl (ndc_adc _ _ _ _ _ _)
                          apply Walk.cons
                          · exact ok_move rfl rfl rfl
                          apply Walk.cons
                          · first | exact ok_nil rfl rfl rfl | exact ok_nil_v rfl rfl rfl
                          apply Walk.cons
                          · first | exact ok_fld rfl rfl rfl fo64_4 rfl | exact ok_fld_v rfl rfl rfl fo64_4 rfl
                          apply Walk.cons
                          · exact ok_hload rfl rfl (i := 0) rfl rfl hnode one3 rfl
                          apply Walk.cons
                          · exact o_built rfl rfl (by kernel_rfl) (v := .agg (pfc v (topN n i) (i : Nat))) (fun w => by kernel_rfl)
                          apply Walk.cons
                          · exact ok_assign rfl rfl rfl
                          apply Walk.cons
                          · exact o_store31 rfl rfl rfl rfl rfl
                          apply Walk.cons
                          · exact ok_assign rfl rfl rfl
                          exact Walk.nil _
                        case hck => kernel_rfl
                        case hQ =>
                          intro ρ A w1 h
                          refine Exit.then_normal ?_
                          exact ⟨some (i, o), _, bestTo_some ho, h.plain _ ⟨rfl, rfl, rfl, rfl, rfl, rfl, trivial⟩ ⟨rfl, rfl, rfl, rfl, trivial⟩ rfl⟩
                  · rintro a w3 ⟨ac2, ρ, hac2, h⟩
                    refine wp_fold (fun a w4 => i < mostA v ∧ ∃ ρ, Rep 78 ⟨[(3, .p 3 0), (5, .p 5 0), (7, .v (.int .i64 (acO ac2))), (8, .p 8 0), (9, .v (.bool ac2.isSome)), (10, .v (.pointer (some ⟨q, 0, none⟩)))], [(0, .ext (heapA T)), (3, .mk (adc v n) 24), (5, .mk (pfc false 0 0) 31), (8, .mk (acC (acP v n ac2)) 31)]⟩ ρ { W := w, M := fun n => T n ≠ none } a w4) ?_ ?_
                    · cases v with
                      | true =>
                        by_cases hlast : i = 128
                        · apply seq_dag hmix h
                          case hw =>
                            apply Walk.cons
                            · exact ok_move rfl rfl rfl
                            apply Walk.cons
                            · first | exact ok_nil rfl rfl rfl | exact ok_nil_v rfl rfl rfl
                            apply Walk.cons
                            · first | exact ok_fld rfl rfl rfl fo64_4 rfl | exact ok_fld_v rfl rfl rfl fo64_4 rfl
                            apply Walk.cons
                            · exact ok_hload rfl rfl (i := 0) rfl rfl hnode one3 rfl
                            apply Walk.cons
                            · exact o_bin rfl rfl rfl rfl (r_eqli (a := i) (b := 128) (decide_eq_true hlast))
                            apply Walk.cons
                            · exact ok_move rfl rfl rfl
                            apply Walk.cons
                            · first | exact ok_skip rfl | exact ok_skip_u rfl | exact ok_fld rfl rfl rfl fo24_0 rfl | exact ok_fld_v rfl rfl rfl fo24_0 rfl
                            apply Walk.cons
                            · first | exact ok_skip rfl | exact ok_skip_u rfl | exact ok_load_cell rfl rfl rfl rfl one4 rfl
                            apply Walk.cons
                            · first | exact ok_skip rfl | exact ok_skip_u rfl | exact ok_not rfl rfl rfl rfl
                            apply Walk.cons
                            · first | exact ok_skip rfl | exact ok_skip_u rfl | exact ok_move rfl rfl rfl
                            apply Walk.cons
                            · first | exact ok_skip rfl | exact ok_skip_u rfl | exact ok_move rfl rfl rfl
                            apply Walk.cons
                            · first | exact ok_skip rfl | exact ok_skip_u rfl | exact ok_nil rfl rfl rfl | exact ok_nil_v rfl rfl rfl
                            apply Walk.cons
                            · first | exact ok_skip rfl | exact ok_skip_u rfl | exact ok_fld rfl rfl rfl fo64_4 rfl | exact ok_fld_v rfl rfl rfl fo64_4 rfl
                            apply Walk.cons
                            · first | exact ok_skip rfl | exact ok_skip_u rfl | exact ok_hload rfl rfl (i := 0) rfl rfl hnode one3 rfl
                            apply Walk.cons
                            · first | exact ok_skip rfl | exact ok_skip_u rfl | exact o_bin rfl rfl rfl rfl (r_eqli (a := i) (b := 32) (decide_eq_true hlast))
                            apply Walk.cons
                            · first | exact ok_skip rfl | exact ok_skip_u rfl | exact ok_pick_true rfl rfl rfl rfl | exact ok_pick_false rfl rfl rfl rfl
                            apply Walk.cons
                            · first | exact ok_pick_true rfl rfl rfl rfl | exact ok_pick_false rfl rfl rfl rfl
                            exact Walk.nil _
                          case hck => kernel_rfl
                          case hQ =>
                            intro ρ A w1 h
                            refine if_true' h rfl (wp_exit ?_)
                            have hbest : M.find true n = ac2 := by rw [Tab.find, ← hac2, hlast]; rfl
                            repeat (first | refine Exit.thenExit ?_ | refine Exit.blockExitNe (by decide) ?_)
                            refine Exit.blockExit (Exit.then_normal ?_)
                            rw [← hbest] at h
                            apply seq_dag hmix h
                            case hw =>
                              apply Walk.cons
                              · exact ok_move rfl rfl rfl
                              apply Walk.cons
                              · exact o_load31 rfl rfl rfl rfl
                              apply Walk.cons
                              · exact ok_move rfl rfl rfl
                              apply Walk.cons
                              · exact ok_assign rfl rfl rfl
                              apply Walk.cons
                              · exact o_store31 rfl rfl rfl rfl rfl
                              apply Walk.cons
                              · exact ok_assign rfl rfl rfl
                              exact Walk.nil _
                            case hck => kernel_rfl
                            case hQ =>
                              intro ρ A w1 h
                              refine wp_ret ?_
                              repeat (first | refine Exit.thenRet ?_ | refine Exit.blockRet ?_)
                              refine h.result_tct Try.results11 rfl rfl rfl agg31 sz31 rfl rfl ?_
                              exact ⟨rfl, h.below_of (i := 0) rfl (fun _ h => h) hT⟩
                        · apply seq_dag hmix h
                          case hw =>
                            apply Walk.cons
                            · exact ok_move rfl rfl rfl
                            apply Walk.cons
                            · first | exact ok_nil rfl rfl rfl | exact ok_nil_v rfl rfl rfl
                            apply Walk.cons
                            · first | exact ok_fld rfl rfl rfl fo64_4 rfl | exact ok_fld_v rfl rfl rfl fo64_4 rfl
                            apply Walk.cons
                            · exact ok_hload rfl rfl (i := 0) rfl rfl hnode one3 rfl
                            apply Walk.cons
                            · exact o_bin rfl rfl rfl rfl (r_eqli (a := i) (b := 128) (decide_eq_false hlast))
                            apply Walk.cons
                            · exact ok_move rfl rfl rfl
                            apply Walk.cons
                            · first | exact ok_skip rfl | exact ok_skip_u rfl | exact ok_fld rfl rfl rfl fo24_0 rfl | exact ok_fld_v rfl rfl rfl fo24_0 rfl
                            apply Walk.cons
                            · first | exact ok_skip rfl | exact ok_skip_u rfl | exact ok_load_cell rfl rfl rfl rfl one4 rfl
                            apply Walk.cons
                            · first | exact ok_skip rfl | exact ok_skip_u rfl | exact ok_not rfl rfl rfl rfl
                            apply Walk.cons
                            · first | exact ok_skip rfl | exact ok_skip_u rfl | exact ok_move rfl rfl rfl
                            apply Walk.cons
                            · first | exact ok_skip rfl | exact ok_skip_u rfl | exact ok_move rfl rfl rfl
                            apply Walk.cons
                            · first | exact ok_skip rfl | exact ok_skip_u rfl | exact ok_nil rfl rfl rfl | exact ok_nil_v rfl rfl rfl
                            apply Walk.cons
                            · first | exact ok_skip rfl | exact ok_skip_u rfl | exact ok_fld rfl rfl rfl fo64_4 rfl | exact ok_fld_v rfl rfl rfl fo64_4 rfl
                            apply Walk.cons
                            · first | exact ok_skip rfl | exact ok_skip_u rfl | exact ok_hload rfl rfl (i := 0) rfl rfl hnode one3 rfl
                            apply Walk.cons
                            · first | exact ok_skip rfl | exact ok_skip_u rfl | exact o_bin rfl rfl rfl rfl (r_eqli (a := i) (b := 32) (decide_eq_false hlast))
                            apply Walk.cons
                            · first | exact ok_skip rfl | exact ok_skip_u rfl | exact ok_pick_true rfl rfl rfl rfl | exact ok_pick_false rfl rfl rfl rfl
                            apply Walk.cons
                            · first | exact ok_pick_true rfl rfl rfl rfl | exact ok_pick_false rfl rfl rfl rfl
                            exact Walk.nil _
                          case hck => kernel_rfl
                          case hQ =>
                            intro ρ A w1 h
                            refine if_false' h rfl (wp_skip (Exit.then_normal ?_))
                            exact ⟨by have := most4; have := most6; omega, _, h.plain _ ⟨rfl, rfl, rfl, rfl, rfl, rfl, trivial⟩ ⟨rfl, rfl, rfl, rfl, trivial⟩ rfl⟩
                      | false =>
                        by_cases hlast : i = 32
                        · apply seq_dag hmix h
                          case hw =>
                            apply Walk.cons
                            · exact ok_move rfl rfl rfl
                            apply Walk.cons
                            · first | exact ok_nil rfl rfl rfl | exact ok_nil_v rfl rfl rfl
                            apply Walk.cons
                            · first | exact ok_fld rfl rfl rfl fo64_4 rfl | exact ok_fld_v rfl rfl rfl fo64_4 rfl
                            apply Walk.cons
                            · exact ok_hload rfl rfl (i := 0) rfl rfl hnode one3 rfl
                            apply Walk.cons
                            · exact o_bin rfl rfl rfl rfl (r_eqli (a := i) (b := 128) (decide_eq_false (by have := most4; omega)))
                            apply Walk.cons
                            · exact ok_move rfl rfl rfl
                            apply Walk.cons
                            · first | exact ok_skip rfl | exact ok_skip_u rfl | exact ok_fld rfl rfl rfl fo24_0 rfl | exact ok_fld_v rfl rfl rfl fo24_0 rfl
                            apply Walk.cons
                            · first | exact ok_skip rfl | exact ok_skip_u rfl | exact ok_load_cell rfl rfl rfl rfl one4 rfl
                            apply Walk.cons
                            · first | exact ok_skip rfl | exact ok_skip_u rfl | exact ok_not rfl rfl rfl rfl
                            apply Walk.cons
                            · first | exact ok_skip rfl | exact ok_skip_u rfl | exact ok_move rfl rfl rfl
                            apply Walk.cons
                            · first | exact ok_skip rfl | exact ok_skip_u rfl | exact ok_move rfl rfl rfl
                            apply Walk.cons
                            · first | exact ok_skip rfl | exact ok_skip_u rfl | exact ok_nil rfl rfl rfl | exact ok_nil_v rfl rfl rfl
                            apply Walk.cons
                            · first | exact ok_skip rfl | exact ok_skip_u rfl | exact ok_fld rfl rfl rfl fo64_4 rfl | exact ok_fld_v rfl rfl rfl fo64_4 rfl
                            apply Walk.cons
                            · first | exact ok_skip rfl | exact ok_skip_u rfl | exact ok_hload rfl rfl (i := 0) rfl rfl hnode one3 rfl
                            apply Walk.cons
                            · first | exact ok_skip rfl | exact ok_skip_u rfl | exact o_bin rfl rfl rfl rfl (r_eqli (a := i) (b := 32) (decide_eq_true hlast))
                            apply Walk.cons
                            · first | exact ok_skip rfl | exact ok_skip_u rfl | exact ok_pick_true rfl rfl rfl rfl | exact ok_pick_false rfl rfl rfl rfl
                            apply Walk.cons
                            · first | exact ok_pick_true rfl rfl rfl rfl | exact ok_pick_false rfl rfl rfl rfl
                            exact Walk.nil _
                          case hck => kernel_rfl
                          case hQ =>
                            intro ρ A w1 h
                            refine if_true' h rfl (wp_exit ?_)
                            have hbest : M.find false n = ac2 := by rw [Tab.find, ← hac2, hlast]; rfl
                            repeat (first | refine Exit.thenExit ?_ | refine Exit.blockExitNe (by decide) ?_)
                            refine Exit.blockExit (Exit.then_normal ?_)
                            rw [← hbest] at h
                            apply seq_dag hmix h
                            case hw =>
                              apply Walk.cons
                              · exact ok_move rfl rfl rfl
                              apply Walk.cons
                              · exact o_load31 rfl rfl rfl rfl
                              apply Walk.cons
                              · exact ok_move rfl rfl rfl
                              apply Walk.cons
                              · exact ok_assign rfl rfl rfl
                              apply Walk.cons
                              · exact o_store31 rfl rfl rfl rfl rfl
                              apply Walk.cons
                              · exact ok_assign rfl rfl rfl
                              exact Walk.nil _
                            case hck => kernel_rfl
                            case hQ =>
                              intro ρ A w1 h
                              refine wp_ret ?_
                              repeat (first | refine Exit.thenRet ?_ | refine Exit.blockRet ?_)
                              refine h.result_tct Try.results11 rfl rfl rfl agg31 sz31 rfl rfl ?_
                              exact ⟨rfl, h.below_of (i := 0) rfl (fun _ h => h) hT⟩
                        · apply seq_dag hmix h
                          case hw =>
                            apply Walk.cons
                            · exact ok_move rfl rfl rfl
                            apply Walk.cons
                            · first | exact ok_nil rfl rfl rfl | exact ok_nil_v rfl rfl rfl
                            apply Walk.cons
                            · first | exact ok_fld rfl rfl rfl fo64_4 rfl | exact ok_fld_v rfl rfl rfl fo64_4 rfl
                            apply Walk.cons
                            · exact ok_hload rfl rfl (i := 0) rfl rfl hnode one3 rfl
                            apply Walk.cons
                            · exact o_bin rfl rfl rfl rfl (r_eqli (a := i) (b := 128) (decide_eq_false (by have := most4; omega)))
                            apply Walk.cons
                            · exact ok_move rfl rfl rfl
                            apply Walk.cons
                            · first | exact ok_skip rfl | exact ok_skip_u rfl | exact ok_fld rfl rfl rfl fo24_0 rfl | exact ok_fld_v rfl rfl rfl fo24_0 rfl
                            apply Walk.cons
                            · first | exact ok_skip rfl | exact ok_skip_u rfl | exact ok_load_cell rfl rfl rfl rfl one4 rfl
                            apply Walk.cons
                            · first | exact ok_skip rfl | exact ok_skip_u rfl | exact ok_not rfl rfl rfl rfl
                            apply Walk.cons
                            · first | exact ok_skip rfl | exact ok_skip_u rfl | exact ok_move rfl rfl rfl
                            apply Walk.cons
                            · first | exact ok_skip rfl | exact ok_skip_u rfl | exact ok_move rfl rfl rfl
                            apply Walk.cons
                            · first | exact ok_skip rfl | exact ok_skip_u rfl | exact ok_nil rfl rfl rfl | exact ok_nil_v rfl rfl rfl
                            apply Walk.cons
                            · first | exact ok_skip rfl | exact ok_skip_u rfl | exact ok_fld rfl rfl rfl fo64_4 rfl | exact ok_fld_v rfl rfl rfl fo64_4 rfl
                            apply Walk.cons
                            · first | exact ok_skip rfl | exact ok_skip_u rfl | exact ok_hload rfl rfl (i := 0) rfl rfl hnode one3 rfl
                            apply Walk.cons
                            · first | exact ok_skip rfl | exact ok_skip_u rfl | exact o_bin rfl rfl rfl rfl (r_eqli (a := i) (b := 32) (decide_eq_false hlast))
                            apply Walk.cons
                            · first | exact ok_skip rfl | exact ok_skip_u rfl | exact ok_pick_true rfl rfl rfl rfl | exact ok_pick_false rfl rfl rfl rfl
                            apply Walk.cons
                            · first | exact ok_pick_true rfl rfl rfl rfl | exact ok_pick_false rfl rfl rfl rfl
                            exact Walk.nil _
                          case hck => kernel_rfl
                          case hQ =>
                            intro ρ A w1 h
                            refine if_false' h rfl (wp_skip (Exit.then_normal ?_))
                            exact ⟨by have := most4; have := most6; omega, _, h.plain _ ⟨rfl, rfl, rfl, rfl, rfl, rfl, trivial⟩ ⟨rfl, rfl, rfl, rfl, trivial⟩ rfl⟩
                    · rintro a w4 ⟨hlt, ρ, h⟩
                      refine Exit.block_normal (Exit.then_normal ?_)
                      apply region_dag hmix h
                      case hw =>
                        apply Walk.cons
                        · exact ok_move rfl rfl rfl
                        apply Walk.cons
                        · first | exact o_load24 rfl rfl rfl rfl | exact o_load24p rfl rfl rfl rfl
                        apply Walk.cons
                        · exact ok_move rfl rfl rfl
                        apply Walk.cons
                        · first | exact ok_nil rfl rfl rfl | exact ok_nil_v rfl rfl rfl
                        apply Walk.cons
                        · first | exact ok_fld rfl rfl rfl fo64_4 rfl | exact ok_fld_v rfl rfl rfl fo64_4 rfl
                        apply Walk.cons
                        · exact ok_hload rfl rfl (i := 0) rfl rfl hnode one3 rfl
                        apply Walk.cons
                        · exact ok_call_val rfl rfl fn28 [.v _, .v _] rfl (rd := []) (fun _ w _ _ => bit_any v n i (by omega) w)
                        apply Walk.cons
                        · first | exact ok_nil rfl rfl rfl | exact ok_nil_v rfl rfl rfl
                        apply Walk.cons
                        · first | exact ok_fld rfl rfl rfl fo64_0 rfl | exact ok_fld_v rfl rfl rfl fo64_0 rfl
                        apply Walk.cons
                        · exact o_at58 rfl rfl rfl rfl (j := bitA n i) (bitA_lt n i) (Nat.zero_add _)
                        apply Walk.cons
                        · exact ok_hload rfl rfl (i := 0) rfl rfl hnode one57 (kid_of ids M v n i (by omega))
                        apply Walk.cons
                        · exact ok_assign rfl rfl rfl
                        exact Walk.nil _
                      case hck => kernel_rfl
                      case hQ =>
                        intro ρ A w1 h
                        rw [← hac2] at h
                        exact ⟨i + 1, _, by omega, by omega, h.plain (fiS v n ids T (M.bestTo v n (i + 1)) (i + 1)) ⟨rfl, rfl, rfl, rfl, rfl, rfl, trivial⟩ ⟨rfl, rfl, rfl, rfl, trivial⟩ rfl⟩
end Go.Proofs.Ytnppgaohfegloaa
