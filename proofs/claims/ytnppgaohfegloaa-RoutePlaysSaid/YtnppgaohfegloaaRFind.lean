/-
  The document's table as a part of the memory; its Find.
-/
import Derived.Test.YtnppgaohfegloaaRefW
namespace Go.Proofs.Ytnppgaohfegloaa
open Go.RowKit

/-- the document's table: a struct that holds a slice of rows -/
def refA (L : List RowR) : Ext where
  holds := fun r f H => ∃ v, H r = some (cobj #[v] 51) ∧ ((v = .slice none 0 0 ∧ L = [] ∧ f = fun n => n = r) ∨
    ∃ g cap cur, v = .slice (some ⟨g, 0, none⟩) L.length cap ∧ g ≠ r ∧ H g = some (cobj cur 76) ∧ L.length ≤ cap ∧ cap ≤ maxLen ∧ cur.size = cap * 19 ∧ cur.toList.take (L.length * 19) = catR L ∧ f = fun n => n = r ∨ n = g)
  loc := by
    rintro r f H H' ⟨v, h1, h2⟩ hh
    rcases h2 with ⟨rfl, rfl, rfl⟩ | ⟨g, cap, cur, rfl, h3, h4, h5, h6, h7, h8, rfl⟩
    · exact ⟨_, by rw [hh r rfl]; exact h1, .inl ⟨rfl, rfl, rfl⟩⟩
    · exact ⟨_, by rw [hh r (.inl rfl)]; exact h1, .inr ⟨g, cap, cur, rfl, h3, by rw [hh g (.inr rfl)]; exact h4, h5, h6, h7, h8, rfl⟩⟩
  live := by
    rintro r f H n ⟨v, h1, h2⟩ hn
    rcases h2 with ⟨rfl, rfl, rfl⟩ | ⟨g, cap, cur, rfl, h3, h4, h5, h6, h7, h8, rfl⟩
    · exact ⟨_, by rw [hn]; exact h1⟩
    · rcases hn with rfl | rfl
      · exact ⟨_, h1⟩
      · exact ⟨_, h4⟩
theorem refA_open {L : List RowR} {r : Nat} {f : Nat → Prop} {w : World} (h : (refA L).holds r f (hp w)) : ∃ v, w.heap[r]? = some (cobj #[v] 51) ∧ w.ownsRow 0 76 19 v L.length (catR L) ∧ f r ∧ (∀ k, some k = v.ownBlock → f k) ∧ ∀ k, f k → k = r ∨ some k = v.ownBlock := by
  obtain ⟨v, h1, h2⟩ := h
  rcases h2 with ⟨rfl, rfl, rfl⟩ | ⟨g, cap, cur, rfl, h3, h4, h5, h6, h7, h8, rfl⟩
  · exact ⟨_, h1, World.ownsRow_nil _ _ _ _, rfl, (fun k hk => by simp [Value.ownBlock] at hk), fun k hk => .inl hk⟩
  · exact ⟨_, h1, ⟨len_catR L, .inr ⟨g, cap, cur, rfl, Nat.zero_le _, h4, h5, h6, h7, h8⟩⟩, .inl rfl, (fun k hk => .inr (by simpa [Value.ownBlock] using hk)), fun k hk => hk.imp id (fun e => by simp [Value.ownBlock, e])⟩
theorem refA_shut {L : List RowR} {r B : Nat} {w : World} {v : Value} (h1 : w.heap[r]? = some (cobj #[v] 51)) (h2 : w.ownsRow B 76 19 v L.length (catR L)) : (refA L).holds r (fun n => n = r ∨ some n = v.ownBlock) (hp w) := by
  refine ⟨v, h1, ?_⟩
  rcases h2.2 with ⟨rfl, h0⟩ | ⟨g, cap, cur, rfl, _, hg, rest⟩
  · refine .inl ⟨rfl, List.eq_nil_of_length_eq_zero h0, ?_⟩
    funext n
    simp [Value.ownBlock]
  · refine .inr ⟨g, cap, cur, rfl, obj_ne hg h1 (by decide), hg, rest.1, rest.2.1, rest.2.2.1, rest.2.2.2, ?_⟩
    funext n
    simp [Value.ownBlock]
def RefOut (r : Nat) (f : Nat → Prop) (L : List RowR) (w w' : World) : Prop := ∃ f', (refA L).holds r f' (hp w') ∧ (∀ k, f' k → f k ∨ w.heap.size ≤ k) ∧ Keeps { W := w, M := f } w'
theorem fo51_0 : fOff Try.prog 51 0 = some 0 := by kernel_rfl
theorem r_gtri {P : Program} {t : TypeId} {k : IntKind} {a b : Int} {c : Bool} (h : decide (a > b) = c) (w : World) : (binOp .gtr t (.int k a) (.int k b)).run P w = .ok (.bool c) w := by
  subst h
  simp [binOp, Op.intCmp]
def better (L : List RowR) (x : RowR) : Option Nat → Prop
  | none => True
  | some j => ∀ y, L[j]? = some y → y.b < x.b
open Classical in
/-- which of the first i rows is the longest that has an address -/
noncomputable def bestI (L : List RowR) (v : Bool) (n : Nat) : Nat → Option Nat
  | 0 => none
  | i + 1 => match L[i]? with
    | none => bestI L v n i
    | some x => if hasB x.v x.n x.b v n = true ∧ better L x (bestI L v n i) then some i else bestI L v n i
theorem bestI_lt {L : List RowR} {v : Bool} {n : Nat} : ∀ {i j : Nat}, bestI L v n i = some j → j < i ∧ j < L.length := by
  intro i
  induction i with
  | zero => intro j h; cases h
  | succ i ih =>
    intro j h
    unfold bestI at h
    cases hx : L[i]? with
    | none => rw [hx] at h; have := ih h; exact ⟨by omega, this.2⟩
    | some x =>
      rw [hx] at h
      simp only at h
      split at h
      · cases h
        exact ⟨by omega, (List.getElem?_eq_some_iff.1 hx).1⟩
      · have := ih h
        exact ⟨by omega, this.2⟩
theorem bestI_no {L : List RowR} {v : Bool} {n i : Nat} {x : RowR} (hx : L[i]? = some x) (h : hasB x.v x.n x.b v n = false) : bestI L v n (i + 1) = bestI L v n i := by
  rw [bestI, hx]
  simp [h]
theorem bestI_new {L : List RowR} {v : Bool} {n i : Nat} {x : RowR} (hx : L[i]? = some x) (h : hasB x.v x.n x.b v n = true) (h0 : bestI L v n i = none) : bestI L v n (i + 1) = some i := by
  rw [bestI, hx]
  simp [h, h0, better]
theorem bestI_more {L : List RowR} {v : Bool} {n i j : Nat} {x y : RowR} (hx : L[i]? = some x) (h : hasB x.v x.n x.b v n = true) (h0 : bestI L v n i = some j) (hy : L[j]? = some y) (hl : y.b < x.b) : bestI L v n (i + 1) = some i := by
  rw [bestI, hx]
  simp [h, h0, better, hy, hl]
theorem bestI_less {L : List RowR} {v : Bool} {n i j : Nat} {x y : RowR} (hx : L[i]? = some x) (h0 : bestI L v n i = some j) (hy : L[j]? = some y) (hl : ¬ y.b < x.b) : bestI L v n (i + 1) = bestI L v n i := by
  rw [bestI, hx]
  simp [h0, better, hy, hl]
def atV : Option Nat → Int
  | none => -1
  | some j => (j : Nat)
noncomputable def docR (L : List RowR) (v : Bool) (n : Nat) : Value := match (bestI L v n L.length).bind (L[·]?) with
  | none => .tuple #[.int .i64 0, .agg (pfc false 0 0), .bool false]
  | some x => .tuple #[.int .i64 x.o, .agg (pfc x.v x.n x.b), .bool true]
def fiR (v : Bool) (n : Nat) (rt : Nat) (at' : Option Nat) (i : Nat) : St := ⟨[(0, .v (.pointer (some ⟨rt, 0, none⟩))), (3, .p 3 0), (5, .p 5 0), (7, .v (.int .i64 (atV at'))), (8, .v (.int .i64 (i : Nat)))], [(3, .mk (adc v n) 24), (5, .mk (pfc false 0 0) 31)]⟩
def WfR (L : List RowR) : Prop := ∀ x ∈ L, x.n < 2 ^ 128 ∧ x.b ≤ 128
set_option maxRecDepth 20000 in
set_option maxHeartbeats 4000000 in
theorem rfind_any {L : List RowR} (hlen : L.length ≤ 1000) (hwf : WfR L) {rt : Nat} {f : Nat → Prop} (v : Bool) (n : Nat) (w : World) (hA : (refA L).holds rt f (hp w)) :
    Calls Try.prog 19 #[.pointer (some ⟨rt, 0, none⟩), .agg (adc v n)] w fun e w' => e = .returned (docR L v n) ∧ Below w.heap.size w w' := by
  obtain ⟨vL, hrt, hown, _⟩ := refA_open hA
  obtain ⟨ad, cap, rfl, hform⟩ := row_gen hown
  have hcb : w.cell? ⟨rt, 0, none⟩ = some (.slice ad L.length cap) := hb_of hrt
  go_enter Try.func19, Try.ntmps19
  have h := Rep.start (N := 75) [.pointer (some ⟨rt, 0, none⟩), .agg (adc v n)] [undef, undef, undef, undef, undef, undef, undef, undef, undef, undef, undef, undef, undef, undef, undef, undef, undef, undef, undef, undef, undef, undef, undef, undef, undef, undef, undef, undef, undef, undef, undef, undef, undef, undef, undef, undef, undef, undef, undef, undef, undef, undef, undef, undef, undef, undef, undef, undef, undef, undef, undef, undef, undef, undef, undef, undef, undef, undef, undef, undef, undef, undef, undef, undef, undef, undef, undef, undef, undef, undef, undef, undef, undef] w rfl
  apply seq_dag hmix h
  case hw =>
    apply Walk.cons
    · exact o_box24 3 rfl rfl rfl
    apply Walk.cons
    · exact ok_assign rfl rfl rfl
    apply Walk.cons
    · exact o_alloc31 5 rfl rfl
    apply Walk.cons
    · exact ok_assign rfl rfl rfl
    exact Walk.nil _
  case hck => kernel_rfl
  case hQ =>
    intro ρ A w1 h
    apply seq_dag hmix h
    case hw =>
      apply Walk.cons
      · exact ok_assign rfl rfl rfl
      exact Walk.nil _
    case hck => kernel_rfl
    case hQ =>
      intro ρ A w1 h
      refine wp_seq ?_
      apply seq_dag hmix h
      case hw =>
        apply Walk.cons
        · exact ok_assign rfl rfl rfl
        exact Walk.nil _
      case hck => kernel_rfl
      case hQ =>
        intro ρ A w1 h
        have h := h.plain (fiR v n rt none 0) ⟨rfl, rfl, rfl, rfl, rfl, trivial⟩ ⟨rfl, rfl, trivial⟩ rfl
        refine wp_block ?_
        refine rep_loop_by (fun i => L.length - i) (fun i => fiR v n rt (bestI L v n i) i) (fun i => i ≤ L.length) 0 (Nat.zero_le _) h ?_
        clear h
        rintro i ρ A w2 hiL h
        refine wp_seq ?_
        by_cases hi : i < L.length
        · obtain ⟨x, hx⟩ : ∃ x, L[i]? = some x := ⟨_, List.getElem?_eq_getElem hi⟩
          obtain ⟨g, rfl, _, _⟩ := hform (by omega)
          have hcr := row_cells hown hx
          have hcp : ∀ k, k < 18 → w.cell? ⟨g, 0 + i * 19 + 0 + k, none⟩ = (pfc x.v x.n x.b)[k]? := fun k hk => by
            rw [Nat.add_zero, hcr k (by omega)]
            simpa using rwc_pfc x k hk
          have hcb17 : w.cell? ⟨g, 0 + i * 19 + 0 + 17, none⟩ = some (.int .i64 (x.b : Nat)) := (hcp 17 (by decide)).trans rfl
          have hxw := hwf x (List.mem_of_getElem? hx)
          have hnx : bestI L v n (i + 1) = bestI L v n (i + 1) := rfl
          obtain ⟨K1, hK1⟩ : ∃ K1 : Act → World → Prop, K1 = fun a w' => ∃ ρ, Rep 75 (fiR v n rt (bestI L v n (i + 1)) i) ρ { W := w } a w' := ⟨_, rfl⟩
          apply seq_dag hmix h
          case hw =>
            apply Walk.cons
            · exact ok_move rfl rfl rfl
            apply Walk.cons
            · exact ok_move rfl rfl rfl
            apply Walk.cons
            · exact ok_nil_v rfl rfl rfl
            apply Walk.cons
            · exact ok_fld_v rfl rfl rfl fo51_0 rfl
            apply Walk.cons
            · exact ok_load_cell_ro rfl rfl rfl (fun h => h) one49 hcb
            apply Walk.cons
            · exact ok_len_ro rfl rfl rfl Try.underlying49
            apply Walk.cons
            · exact o_bin rfl rfl rfl rfl (r_lss (b := L.length) (decide_eq_true hi))
            exact Walk.nil _
          case hck => kernel_rfl
          case hQ =>
            intro ρ A w1 h
            refine if_true' h rfl (wp_skip ?_)
            refine Exit.then_normal ?_
            refine wp_seq (wp_block ?_)
            apply seq_dag hmix h
            case hw =>
              apply Walk.cons
              · exact ok_move rfl rfl rfl
              apply Walk.cons
              · exact ok_nil_v rfl rfl rfl
              apply Walk.cons
              · exact ok_fld_v rfl rfl rfl fo51_0 rfl
              apply Walk.cons
              · exact ok_load_cell_ro rfl rfl rfl (fun h => h) one49 hcb
              apply Walk.cons
              · exact ok_move rfl rfl rfl
              apply Walk.cons
              · exact ok_index_slice_ro rfl rfl rfl rfl Try.underlying49 sz76 hi
              apply Walk.cons
              · exact ok_fld_v rfl rfl rfl fo76_0 rfl
              apply Walk.cons
              · exact ok_load_agg_ro rfl rfl rfl (fun h => h) agg31 sz31 rfl hcp
              apply Walk.cons
              · exact o_load24 rfl rfl rfl rfl
              apply Walk.cons
              · exact ok_call_val rfl rfl fn16 [.v _, .v _] rfl (rd := []) (fun _ w _ _ => has_any x.v x.n x.b v n hxw.2 w)
              apply Walk.cons
              · exact ok_assign rfl rfl rfl
              exact Walk.nil _
            case hck => kernel_rfl
            case hQ =>
              intro ρ A w1 h
              refine wp_fold K1 ?_ ?_
              · cases hb : hasB x.v x.n x.b v n with
                | false =>
                  rw [hb] at h
                  apply seq_dag hmix h
                  case hw =>
                    apply Walk.cons
                    · exact ok_move rfl rfl rfl
                    apply Walk.cons
                    · exact ok_move rfl rfl rfl
                    apply Walk.cons
                    · first | exact ok_skip rfl | exact ok_skip_u rfl | exact ok_move rfl rfl rfl
                    apply Walk.cons
                    · first | exact ok_skip rfl | exact ok_skip_u rfl | exact ok_move rfl rfl rfl
                    apply Walk.cons
                    · first | exact ok_skip rfl | exact ok_skip_u rfl | exact ok_move rfl rfl rfl
                    apply Walk.cons
                    · first | exact ok_skip rfl | exact ok_skip_u rfl | exact ok_move rfl rfl rfl
                    apply Walk.cons
                    · first | exact ok_skip rfl | exact ok_skip_u rfl | exact ok_nil_v rfl rfl rfl
                    apply Walk.cons
                    · first | exact ok_skip rfl | exact ok_skip_u rfl | exact ok_fld_v rfl rfl rfl fo51_0 rfl
                    apply Walk.cons
                    · first | exact ok_skip rfl | exact ok_skip_u rfl | exact ok_load_cell_ro rfl rfl rfl (fun h => h) one49 hcb
                    apply Walk.cons
                    · first | exact ok_skip rfl | exact ok_skip_u rfl | exact ok_move rfl rfl rfl
                    apply Walk.cons
                    · first | exact ok_skip rfl | exact ok_skip_u rfl | exact ok_index_slice_ro rfl rfl rfl rfl Try.underlying49 sz76 hi
                    apply Walk.cons
                    · first | exact ok_skip rfl | exact ok_skip_u rfl | exact ok_fld_v rfl rfl rfl fo76_0 rfl
                    apply Walk.cons
                    · first | exact ok_skip rfl | exact ok_skip_u rfl | exact ok_fld_v rfl rfl rfl fo31_1 rfl
                    apply Walk.cons
                    · first | exact ok_skip rfl | exact ok_skip_u rfl | exact ok_load_cell_ro rfl rfl rfl (fun h => h) one3 hcb17
                    apply Walk.cons
                    · first | exact ok_skip rfl | exact ok_skip_u rfl | exact ok_move rfl rfl rfl
                    apply Walk.cons
                    · first | exact ok_skip rfl | exact ok_skip_u rfl | exact ok_nil_v rfl rfl rfl
                    apply Walk.cons
                    · first | exact ok_skip rfl | exact ok_skip_u rfl | exact ok_fld_v rfl rfl rfl fo51_0 rfl
                    apply Walk.cons
                    · first | exact ok_skip rfl | exact ok_skip_u rfl | exact ok_load_cell_ro rfl rfl rfl (fun h => h) one49 hcb
                    apply Walk.cons
                    · first | exact ok_skip rfl | exact ok_skip_u rfl | exact ok_move rfl rfl rfl
                    apply Walk.cons
                    · first | exact ok_skip rfl | exact ok_skip_u rfl | exact ok_move rfl rfl rfl
                    apply Walk.cons
                    · first | exact ok_skip rfl | exact ok_skip_u rfl | exact ok_fld_v rfl rfl rfl fo76_0 rfl
                    apply Walk.cons
                    · first | exact ok_skip rfl | exact ok_skip_u rfl | exact ok_fld_v rfl rfl rfl fo31_1 rfl
                    apply Walk.cons
                    · first | exact ok_skip rfl | exact ok_skip_u rfl | exact ok_move rfl rfl rfl
                    apply Walk.cons
                    · first | exact ok_skip rfl | exact ok_skip_u rfl | exact ok_move rfl rfl rfl
                    apply Walk.cons
                    · first | exact ok_skip rfl | exact ok_skip_u rfl | exact ok_pick_true rfl rfl rfl rfl | exact ok_pick_false rfl rfl rfl rfl
                    apply Walk.cons
                    · first | exact ok_pick_true rfl rfl rfl rfl | exact ok_pick_false rfl rfl rfl rfl
                    exact Walk.nil _
                  case hck => kernel_rfl
                  case hQ =>
                    intro ρ A w1 h
                    refine if_false' h rfl (wp_skip (Exit.then_normal ?_))
                    rw [hK1, bestI_no hx hb]
                    exact ⟨ρ, h.plain (fiR v n rt _ i) ⟨rfl, rfl, rfl, rfl, rfl, trivial⟩ ⟨rfl, rfl, trivial⟩ rfl⟩
                | true =>
                  rw [hb] at h
                  cases ha : bestI L v n i with
                  | none =>
                    rw [ha] at h
                    apply seq_dag hmix h
                    case hw =>
                      apply Walk.cons
                      · exact ok_move rfl rfl rfl
                      apply Walk.cons
                      · exact ok_move rfl rfl rfl
                      apply Walk.cons
                      · first | exact ok_skip rfl | exact ok_skip_u rfl | exact ok_move rfl rfl rfl
                      apply Walk.cons
                      · exact o_bin rfl rfl rfl rfl (r_lssi rfl)
                      apply Walk.cons
                      · first | exact ok_skip rfl | exact ok_skip_u rfl | exact ok_move rfl rfl rfl
                      apply Walk.cons
                      · first | exact ok_skip rfl | exact ok_skip_u rfl | exact ok_move rfl rfl rfl
                      apply Walk.cons
                      · first | exact ok_skip rfl | exact ok_skip_u rfl | exact ok_nil_v rfl rfl rfl
                      apply Walk.cons
                      · first | exact ok_skip rfl | exact ok_skip_u rfl | exact ok_fld_v rfl rfl rfl fo51_0 rfl
                      apply Walk.cons
                      · first | exact ok_skip rfl | exact ok_skip_u rfl | exact ok_load_cell_ro rfl rfl rfl (fun h => h) one49 hcb
                      apply Walk.cons
                      · first | exact ok_skip rfl | exact ok_skip_u rfl | exact ok_move rfl rfl rfl
                      apply Walk.cons
                      · first | exact ok_skip rfl | exact ok_skip_u rfl | exact ok_index_slice_ro rfl rfl rfl rfl Try.underlying49 sz76 hi
                      apply Walk.cons
                      · first | exact ok_skip rfl | exact ok_skip_u rfl | exact ok_fld_v rfl rfl rfl fo76_0 rfl
                      apply Walk.cons
                      · first | exact ok_skip rfl | exact ok_skip_u rfl | exact ok_fld_v rfl rfl rfl fo31_1 rfl
                      apply Walk.cons
                      · first | exact ok_skip rfl | exact ok_skip_u rfl | exact ok_load_cell_ro rfl rfl rfl (fun h => h) one3 hcb17
                      apply Walk.cons
                      · first | exact ok_skip rfl | exact ok_skip_u rfl | exact ok_move rfl rfl rfl
                      apply Walk.cons
                      · first | exact ok_skip rfl | exact ok_skip_u rfl | exact ok_nil_v rfl rfl rfl
                      apply Walk.cons
                      · first | exact ok_skip rfl | exact ok_skip_u rfl | exact ok_fld_v rfl rfl rfl fo51_0 rfl
                      apply Walk.cons
                      · first | exact ok_skip rfl | exact ok_skip_u rfl | exact ok_load_cell_ro rfl rfl rfl (fun h => h) one49 hcb
                      apply Walk.cons
                      · first | exact ok_skip rfl | exact ok_skip_u rfl | exact ok_move rfl rfl rfl
                      apply Walk.cons
                      · first | exact ok_skip rfl | exact ok_skip_u rfl | exact ok_move rfl rfl rfl
                      apply Walk.cons
                      · first | exact ok_skip rfl | exact ok_skip_u rfl | exact ok_fld_v rfl rfl rfl fo76_0 rfl
                      apply Walk.cons
                      · first | exact ok_skip rfl | exact ok_skip_u rfl | exact ok_fld_v rfl rfl rfl fo31_1 rfl
                      apply Walk.cons
                      · first | exact ok_skip rfl | exact ok_skip_u rfl | exact ok_move rfl rfl rfl
                      apply Walk.cons
                      · first | exact ok_skip rfl | exact ok_skip_u rfl | exact ok_move rfl rfl rfl
                      apply Walk.cons
                      · first | exact ok_skip rfl | exact ok_skip_u rfl | exact ok_pick_true rfl rfl rfl rfl | exact ok_pick_false rfl rfl rfl rfl
                      apply Walk.cons
                      · first | exact ok_pick_true rfl rfl rfl rfl | exact ok_pick_false rfl rfl rfl rfl
                      exact Walk.nil _
                    case hck => kernel_rfl
                    case hQ =>
                      intro ρ A w1 h
                      refine if_true' h rfl ?_
                      apply region_dag hmix h
                      case hw =>
                        apply Walk.cons
                        · exact ok_move rfl rfl rfl
                        apply Walk.cons
                        · exact ok_assign rfl rfl rfl
                        exact Walk.nil _
                      case hck => kernel_rfl
                      case hQ =>
                        intro ρ A w1 h
                        refine Exit.then_normal ?_
                        rw [hK1, bestI_new hx hb ha]
                        exact ⟨ρ, h.plain (fiR v n rt _ i) ⟨rfl, rfl, rfl, rfl, rfl, trivial⟩ ⟨rfl, rfl, trivial⟩ rfl⟩
                  | some j =>
                    rw [ha] at h
                    have hj := (bestI_lt ha).2
                    obtain ⟨y, hy⟩ : ∃ y, L[j]? = some y := ⟨_, List.getElem?_eq_getElem hj⟩
                    have hcy17 : w.cell? ⟨g, 0 + j * 19 + 0 + 17, none⟩ = some (.int .i64 (y.b : Nat)) := by
                      rw [Nat.add_zero, row_cells hown hy 17 (by decide)]
                      rfl
                    by_cases hl : y.b < x.b
                    · have hl' : decide ((x.b : Int) > (y.b : Nat)) = true := decide_eq_true (by omega)
                      apply seq_dag hmix h
                      case hw =>
                        apply Walk.cons
                        · exact ok_move rfl rfl rfl
                        apply Walk.cons
                        · exact ok_move rfl rfl rfl
                        apply Walk.cons
                        · first | exact ok_skip rfl | exact ok_skip_u rfl | exact ok_move rfl rfl rfl
                        apply Walk.cons
                        · exact o_bin rfl rfl rfl rfl (r_lssi (show decide (atV (some j) < 0) = false from decide_eq_false (by show ¬ ((j : Nat) : Int) < 0; omega)))
                        apply Walk.cons
                        · first | exact ok_skip rfl | exact ok_skip_u rfl | exact ok_move rfl rfl rfl
                        apply Walk.cons
                        · first | exact ok_skip rfl | exact ok_skip_u rfl | exact ok_move rfl rfl rfl
                        apply Walk.cons
                        · first | exact ok_skip rfl | exact ok_skip_u rfl | exact ok_nil_v rfl rfl rfl
                        apply Walk.cons
                        · first | exact ok_skip rfl | exact ok_skip_u rfl | exact ok_fld_v rfl rfl rfl fo51_0 rfl
                        apply Walk.cons
                        · first | exact ok_skip rfl | exact ok_skip_u rfl | exact ok_load_cell_ro rfl rfl rfl (fun h => h) one49 hcb
                        apply Walk.cons
                        · first | exact ok_skip rfl | exact ok_skip_u rfl | exact ok_move rfl rfl rfl
                        apply Walk.cons
                        · first | exact ok_skip rfl | exact ok_skip_u rfl | exact ok_index_slice_ro rfl rfl rfl rfl Try.underlying49 sz76 hi
                        apply Walk.cons
                        · first | exact ok_skip rfl | exact ok_skip_u rfl | exact ok_fld_v rfl rfl rfl fo76_0 rfl
                        apply Walk.cons
                        · first | exact ok_skip rfl | exact ok_skip_u rfl | exact ok_fld_v rfl rfl rfl fo31_1 rfl
                        apply Walk.cons
                        · first | exact ok_skip rfl | exact ok_skip_u rfl | exact ok_load_cell_ro rfl rfl rfl (fun h => h) one3 hcb17
                        apply Walk.cons
                        · first | exact ok_skip rfl | exact ok_skip_u rfl | exact ok_move rfl rfl rfl
                        apply Walk.cons
                        · first | exact ok_skip rfl | exact ok_skip_u rfl | exact ok_nil_v rfl rfl rfl
                        apply Walk.cons
                        · first | exact ok_skip rfl | exact ok_skip_u rfl | exact ok_fld_v rfl rfl rfl fo51_0 rfl
                        apply Walk.cons
                        · first | exact ok_skip rfl | exact ok_skip_u rfl | exact ok_load_cell_ro rfl rfl rfl (fun h => h) one49 hcb
                        apply Walk.cons
                        · first | exact ok_skip rfl | exact ok_skip_u rfl | exact ok_move rfl rfl rfl
                        apply Walk.cons
                        · first | exact ok_skip rfl | exact ok_skip_u rfl | exact ok_index_slice_ro rfl rfl rfl rfl Try.underlying49 sz76 hj
                        apply Walk.cons
                        · first | exact ok_skip rfl | exact ok_skip_u rfl | exact ok_fld_v rfl rfl rfl fo76_0 rfl
                        apply Walk.cons
                        · first | exact ok_skip rfl | exact ok_skip_u rfl | exact ok_fld_v rfl rfl rfl fo31_1 rfl
                        apply Walk.cons
                        · first | exact ok_skip rfl | exact ok_skip_u rfl | exact ok_load_cell_ro rfl rfl rfl (fun h => h) one3 hcy17
                        apply Walk.cons
                        · exact o_bin rfl rfl rfl rfl (r_gtri hl')
                        apply Walk.cons
                        · first | exact ok_skip rfl | exact ok_skip_u rfl | exact ok_pick_true rfl rfl rfl rfl | exact ok_pick_false rfl rfl rfl rfl
                        apply Walk.cons
                        · first | exact ok_pick_true rfl rfl rfl rfl | exact ok_pick_false rfl rfl rfl rfl
                        exact Walk.nil _
                      case hck => kernel_rfl
                      case hQ =>
                        intro ρ A w1 h
                        refine if_true' h rfl ?_
                        apply region_dag hmix h
                        case hw =>
                          apply Walk.cons
                          · exact ok_move rfl rfl rfl
                          apply Walk.cons
                          · exact ok_assign rfl rfl rfl
                          exact Walk.nil _
                        case hck => kernel_rfl
                        case hQ =>
                          intro ρ A w1 h
                          refine Exit.then_normal ?_
                          rw [hK1, bestI_more hx hb ha hy hl]
                          exact ⟨ρ, h.plain (fiR v n rt _ i) ⟨rfl, rfl, rfl, rfl, rfl, trivial⟩ ⟨rfl, rfl, trivial⟩ rfl⟩
                    · have hl' : decide ((x.b : Int) > (y.b : Nat)) = false := decide_eq_false (by omega)
                      apply seq_dag hmix h
                      case hw =>
                        apply Walk.cons
                        · exact ok_move rfl rfl rfl
                        apply Walk.cons
                        · exact ok_move rfl rfl rfl
                        apply Walk.cons
                        · first | exact ok_skip rfl | exact ok_skip_u rfl | exact ok_move rfl rfl rfl
                        apply Walk.cons
                        · exact o_bin rfl rfl rfl rfl (r_lssi (show decide (atV (some j) < 0) = false from decide_eq_false (by show ¬ ((j : Nat) : Int) < 0; omega)))
                        apply Walk.cons
                        · first | exact ok_skip rfl | exact ok_skip_u rfl | exact ok_move rfl rfl rfl
                        apply Walk.cons
                        · first | exact ok_skip rfl | exact ok_skip_u rfl | exact ok_move rfl rfl rfl
                        apply Walk.cons
                        · first | exact ok_skip rfl | exact ok_skip_u rfl | exact ok_nil_v rfl rfl rfl
                        apply Walk.cons
                        · first | exact ok_skip rfl | exact ok_skip_u rfl | exact ok_fld_v rfl rfl rfl fo51_0 rfl
                        apply Walk.cons
                        · first | exact ok_skip rfl | exact ok_skip_u rfl | exact ok_load_cell_ro rfl rfl rfl (fun h => h) one49 hcb
                        apply Walk.cons
                        · first | exact ok_skip rfl | exact ok_skip_u rfl | exact ok_move rfl rfl rfl
                        apply Walk.cons
                        · first | exact ok_skip rfl | exact ok_skip_u rfl | exact ok_index_slice_ro rfl rfl rfl rfl Try.underlying49 sz76 hi
                        apply Walk.cons
                        · first | exact ok_skip rfl | exact ok_skip_u rfl | exact ok_fld_v rfl rfl rfl fo76_0 rfl
                        apply Walk.cons
                        · first | exact ok_skip rfl | exact ok_skip_u rfl | exact ok_fld_v rfl rfl rfl fo31_1 rfl
                        apply Walk.cons
                        · first | exact ok_skip rfl | exact ok_skip_u rfl | exact ok_load_cell_ro rfl rfl rfl (fun h => h) one3 hcb17
                        apply Walk.cons
                        · first | exact ok_skip rfl | exact ok_skip_u rfl | exact ok_move rfl rfl rfl
                        apply Walk.cons
                        · first | exact ok_skip rfl | exact ok_skip_u rfl | exact ok_nil_v rfl rfl rfl
                        apply Walk.cons
                        · first | exact ok_skip rfl | exact ok_skip_u rfl | exact ok_fld_v rfl rfl rfl fo51_0 rfl
                        apply Walk.cons
                        · first | exact ok_skip rfl | exact ok_skip_u rfl | exact ok_load_cell_ro rfl rfl rfl (fun h => h) one49 hcb
                        apply Walk.cons
                        · first | exact ok_skip rfl | exact ok_skip_u rfl | exact ok_move rfl rfl rfl
                        apply Walk.cons
                        · first | exact ok_skip rfl | exact ok_skip_u rfl | exact ok_index_slice_ro rfl rfl rfl rfl Try.underlying49 sz76 hj
                        apply Walk.cons
                        · first | exact ok_skip rfl | exact ok_skip_u rfl | exact ok_fld_v rfl rfl rfl fo76_0 rfl
                        apply Walk.cons
                        · first | exact ok_skip rfl | exact ok_skip_u rfl | exact ok_fld_v rfl rfl rfl fo31_1 rfl
                        apply Walk.cons
                        · first | exact ok_skip rfl | exact ok_skip_u rfl | exact ok_load_cell_ro rfl rfl rfl (fun h => h) one3 hcy17
                        apply Walk.cons
                        · exact o_bin rfl rfl rfl rfl (r_gtri hl')
                        apply Walk.cons
                        · first | exact ok_skip rfl | exact ok_skip_u rfl | exact ok_pick_true rfl rfl rfl rfl | exact ok_pick_false rfl rfl rfl rfl
                        apply Walk.cons
                        · first | exact ok_pick_true rfl rfl rfl rfl | exact ok_pick_false rfl rfl rfl rfl
                        exact Walk.nil _
                      case hck => kernel_rfl
                      case hQ =>
                        intro ρ A w1 h
                        refine if_false' h rfl (wp_skip (Exit.then_normal ?_))
                        rw [hK1, bestI_less hx ha hy hl, ha]
                        exact ⟨ρ, h.plain (fiR v n rt _ i) ⟨rfl, rfl, rfl, rfl, rfl, trivial⟩ ⟨rfl, rfl, trivial⟩ rfl⟩
              · intro A9 w9 hK
                rw [hK1] at hK
                obtain ⟨ρ, h⟩ := hK
                repeat (first | refine Exit.block_normal ?_ | refine Exit.then_normal ?_)
                apply region_dag hmix h
                case hw =>
                  apply Walk.cons
                  · exact ok_move rfl rfl rfl
                  apply Walk.cons
                  · exact o_bin rfl rfl rfl rfl (r_addi (b := 1) (by omega))
                  apply Walk.cons
                  · exact ok_assign rfl rfl rfl
                  exact Walk.nil _
                case hck => kernel_rfl
                case hQ =>
                  intro ρ A w1 h
                  exact ⟨i + 1, ρ, by omega, by omega, h.plain (fiR v n rt (bestI L v n (i + 1)) (i + 1)) ⟨rfl, rfl, rfl, rfl, rfl, trivial⟩ ⟨rfl, rfl, trivial⟩ rfl⟩
        · obtain rfl : i = L.length := by omega
          apply seq_dag hmix h
          case hw =>
            apply Walk.cons
            · exact ok_move rfl rfl rfl
            apply Walk.cons
            · exact ok_move rfl rfl rfl
            apply Walk.cons
            · exact ok_nil_v rfl rfl rfl
            apply Walk.cons
            · exact ok_fld_v rfl rfl rfl fo51_0 rfl
            apply Walk.cons
            · exact ok_load_cell_ro rfl rfl rfl (fun h => h) one49 hcb
            apply Walk.cons
            · exact ok_len_ro rfl rfl rfl Try.underlying49
            apply Walk.cons
            · exact o_bin rfl rfl rfl rfl (r_lss (b := L.length) (decide_eq_false hi))
            exact Walk.nil _
          case hck => kernel_rfl
          case hQ =>
            intro ρ A w1 h
            refine if_false' h rfl (wp_exit ?_)
            repeat (first | refine Exit.thenExit ?_ | refine Exit.blockExitNe (by decide) ?_)
            refine Exit.blockExit ?_
            refine Exit.then_normal ?_
            refine wp_seq ?_
            cases ha : bestI L v n L.length with
            | none =>
              rw [ha] at h
              have hd : docR L v n = .tuple #[.int .i64 0, .agg (pfc false 0 0), .bool false] := by rw [docR, ha]; rfl
              apply seq_dag hmix h
              case hw =>
                apply Walk.cons
                · exact ok_move rfl rfl rfl
                apply Walk.cons
                · exact o_bin rfl rfl rfl rfl (r_lssi rfl)
                exact Walk.nil _
              case hck => kernel_rfl
              case hQ =>
                intro ρ A w1 h
                refine if_true' h rfl ?_
                apply seq_dag hmix h
                case hw =>
                  apply Walk.cons
                  · exact o_built rfl rfl (by kernel_rfl) (v := .agg (pfc false 0 0)) (fun w => by kernel_rfl)
                  apply Walk.cons
                  · exact ok_assign rfl rfl rfl
                  apply Walk.cons
                  · exact o_store31 rfl rfl rfl rfl rfl
                  apply Walk.cons
                  · exact ok_assign rfl rfl rfl
                  exact Walk.nil _
                case hck => kernel_rfl
                case hQ =>
                  intro ρ A w1 h
                  refine wp_ret ?_
                  repeat (first | refine Exit.thenRet ?_ | refine Exit.blockRet ?_)
                  refine h.result_tct Try.results19 rfl rfl rfl agg31 sz31 rfl rfl ?_
                  exact ⟨by rw [hd], h.below⟩
            | some j =>
              rw [ha] at h
              have hj := (bestI_lt ha).2
              obtain ⟨y, hy⟩ : ∃ y, L[j]? = some y := ⟨_, List.getElem?_eq_getElem hj⟩
              obtain ⟨g, rfl, _, _⟩ := hform (by omega)
              have hd : docR L v n = .tuple #[.int .i64 y.o, .agg (pfc y.v y.n y.b), .bool true] := by rw [docR, ha]; simp [hy]
              have hcr := row_cells hown hy
              have hcp : ∀ k, k < 18 → w.cell? ⟨g, 0 + j * 19 + 0 + k, none⟩ = (pfc y.v y.n y.b)[k]? := fun k hk => by
                rw [Nat.add_zero, hcr k (by omega)]
                simpa using rwc_pfc y k hk
              have hco : w.cell? ⟨g, 0 + j * 19 + 18, none⟩ = some (.int .i64 y.o) := (hcr 18 (by decide)).trans rfl
              apply seq_dag hmix h
              case hw =>
                apply Walk.cons
                · exact ok_move rfl rfl rfl
                apply Walk.cons
                · exact o_bin rfl rfl rfl rfl (r_lssi (show decide (atV (some j) < 0) = false from decide_eq_false (by show ¬ ((j : Nat) : Int) < 0; omega)))
                exact Walk.nil _
              case hck => kernel_rfl
              case hQ =>
                intro ρ A w1 h
                refine if_false' h rfl (wp_skip (Exit.then_normal ?_))
                apply seq_dag hmix h
                case hw =>
                  apply Walk.cons
                  · exact ok_move rfl rfl rfl
                  apply Walk.cons
                  · exact ok_nil_v rfl rfl rfl
                  apply Walk.cons
                  · exact ok_fld_v rfl rfl rfl fo51_0 rfl
                  apply Walk.cons
                  · exact ok_load_cell_ro rfl rfl rfl (fun h => h) one49 hcb
                  apply Walk.cons
                  · exact ok_move rfl rfl rfl
                  apply Walk.cons
                  · exact ok_index_slice_ro rfl rfl rfl rfl Try.underlying49 sz76 hj
                  apply Walk.cons
                  · exact ok_fld_v rfl rfl rfl fo76_1 rfl
                  apply Walk.cons
                  · exact ok_load_cell_ro rfl rfl rfl (fun h => h) one3 hco
                  apply Walk.cons
                  · exact ok_move rfl rfl rfl
                  apply Walk.cons
                  · exact ok_nil_v rfl rfl rfl
                  apply Walk.cons
                  · exact ok_fld_v rfl rfl rfl fo51_0 rfl
                  apply Walk.cons
                  · exact ok_load_cell_ro rfl rfl rfl (fun h => h) one49 hcb
                  apply Walk.cons
                  · exact ok_move rfl rfl rfl
                  apply Walk.cons
                  · exact ok_index_slice_ro rfl rfl rfl rfl Try.underlying49 sz76 hj
                  apply Walk.cons
                  · exact ok_fld_v rfl rfl rfl fo76_0 rfl
                  apply Walk.cons
                  · exact ok_load_agg_ro rfl rfl rfl (fun h => h) agg31 sz31 rfl hcp
                  apply Walk.cons
                  · exact ok_assign rfl rfl rfl
                  apply Walk.cons
                  · exact o_store31 rfl rfl rfl rfl rfl
                  apply Walk.cons
                  · exact ok_assign rfl rfl rfl
                  exact Walk.nil _
                case hck => kernel_rfl
                case hQ =>
                  intro ρ A w1 h
                  refine wp_ret ?_
                  repeat (first | refine Exit.thenRet ?_ | refine Exit.blockRet ?_)
                  refine h.result_tct Try.results19 rfl rfl rfl agg31 sz31 rfl rfl ?_
                  exact ⟨by rw [hd], h.below⟩
end Go.Proofs.Ytnppgaohfegloaa
