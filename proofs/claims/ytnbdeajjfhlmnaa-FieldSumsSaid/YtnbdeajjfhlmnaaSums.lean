/-
  aditlaw01.FieldSums: what it hands back is true, for a slice of any numbers of 32 bytes.
-/
import Derived.Test.YtnbdeajjfhlmnaaLent
namespace Go.Proofs.Ytnbdeajjfhlmnaa
open Go.RowKit

theorem Sl.of_more {w : World} {g : Nat} {l ex : List Nat} {c : Nat} (h : w.heap[g]? = some (Blk.obj ⟨catc (l ++ ex), 24⟩)) (hc : l.length ≤ c) : Sl w (.slice (some ⟨g, 0, none⟩) l.length c) l :=
  ⟨_, _, rfl, hc, fun j hj => ⟨g, 0, rfl, fun k hk => by
    have e : (l ++ ex).getD j 0 = l.getD j 0 := by
      simp only [List.getD_eq_getElem?_getD]
      rw [List.getElem?_append_left hj]
    rw [cell_of_obj h, Nat.zero_add, ← e]
    exact catc_get (l ++ ex) j k (by rw [List.length_append]; omega) hk⟩⟩
theorem more_cell {w : World} {g : Nat} {M : List Nat} (h : w.heap[g]? = some (Blk.obj ⟨catc M, 24⟩)) {j n : Nat} (hj : j < M.length) (hn : M.getD j 0 = n) : ∀ k, k < 32 → w.cell? ⟨g, 0 + j * 32 + k, none⟩ = some (byteV n k) := fun k hk => by
  rw [cell_of_obj h, Nat.zero_add, ← hn]
  exact catc_get M j k hj hk
def keptS (v r : Value) (k : Nat) : St := ⟨[(1, .v v), (5, .v r), (6, .v (.int .i64 k))], []⟩
theorem fn14 : goFn Try.prog 14 = true := by kernel_rfl
theorem fn17 : goFn Try.prog 17 = true := by kernel_rfl
theorem fn18 : goFn Try.prog 18 = true := by kernel_rfl
theorem fn19 : goFn Try.prog 19 = true := by kernel_rfl
set_option maxRecDepth 20000 in
set_option maxHeartbeats 1000000 in
theorem kept_any (l ex : List Nat) (hl : ∀ j, l.getD j 0 < 2 ^ 256) (hlen : l.length ≤ 4398046511102) (v : Value) (g c : Nat) (hc : c = (l ++ [7, 8] ++ ex).length) (w : World) (hs : Sl w v l) (hb : w.heap[g]? = some (Blk.obj ⟨catc (l ++ [7, 8] ++ ex), 24⟩)) :
    Calls Try.prog 19 #[.slice (some ⟨g, 0, none⟩) l.length c, v] w fun e w' => e = .returned (.bool true) ∧ Below w.heap.size w w' := by
  have hc2 : l.length + 2 ≤ c := by rw [hc]; simp
  have hM : ∀ j, j < l.length → (l ++ [7, 8] ++ ex).getD j 0 = l.getD j 0 := fun j hj => by
    simp only [List.getD_eq_getElem?_getD]
    rw [List.append_assoc, List.getElem?_append_left hj]
  have h7 : (l ++ [7, 8] ++ ex).getD l.length 0 = 7 := by
    simp only [List.getD_eq_getElem?_getD]
    rw [List.append_assoc, List.getElem?_append_right (Nat.le_refl _)]
    simp
  have h8 : (l ++ [7, 8] ++ ex).getD (l.length + 1) 0 = 8 := by
    simp only [List.getD_eq_getElem?_getD]
    rw [List.append_assoc, List.getElem?_append_right (by omega)]
    simp
  have hml : (l ++ [7, 8] ++ ex).length = c := hc.symm
  have c7 := more_cell hb (j := l.length) (by omega) h7
  have c8 := more_cell hb (j := l.length + 1) (by omega) h8
  have cj : ∀ j, j < l.length → ∀ k, k < 32 → w.cell? ⟨g, 0 + j * 32 + k, none⟩ = some (byteV (l.getD j 0) k) := fun j hj => more_cell hb (by omega) (hM j hj)
  obtain ⟨ad, cap0, hv, _, hcv⟩ := id hs
  subst hv
  go_enter Try.func19, Try.ntmps19
  have h := Rep.start (N := 44) [.slice (some ⟨g, 0, none⟩) l.length c, .slice ad l.length cap0] [undef, undef, undef, undef, undef, undef, undef, undef, undef, undef, undef, undef, undef, undef, undef, undef, undef, undef, undef, undef, undef, undef, undef, undef, undef, undef, undef, undef, undef, undef, undef, undef, undef, undef, undef, undef, undef, undef, undef, undef, undef, undef] w rfl
  apply seq_dag hmix h
  case hw =>
    apply Walk.cons
    · exact ok_assign rfl rfl rfl
    exact Walk.nil _
  case hck => kernel_rfl
  case hQ =>
    intro ρ A w1 h
    apply seq_dag hmix h
    case hw =>
      apply Walk.cons
      · exact ok_move rfl rfl rfl
      apply Walk.cons
      · exact ok_move rfl rfl rfl
      apply Walk.cons
      · exact o_len22 rfl rfl rfl rfl
      apply Walk.cons
      · exact o_bin rfl rfl rfl rfl (r_addi (a := l.length) (b := 2) (by omega))
      apply Walk.cons
      · exact o_head22ro rfl rfl rfl (n := l.length + 2) rfl hc2 (by omega)
      apply Walk.cons
      · exact ok_assign rfl rfl rfl
      exact Walk.nil _
    case hck => kernel_rfl
    case hQ =>
      intro ρ A w1 h
      refine wp_seq ?_
      apply seq_dag hmix h
      case hw =>
        apply Walk.cons
        · exact ok_assign rfl rfl rfl
        exact Walk.nil _
      case hck => kernel_rfl
      case hQ =>
        intro ρ A w1 h
        have h := h.plain (keptS (.slice ad l.length cap0) (.slice (some ⟨g, 0, none⟩) (l.length + 2) c) 0) ⟨rfl, rfl, rfl, trivial⟩ trivial rfl
        refine wp_block ?_
        refine rep_loop l.length (keptS (.slice ad l.length cap0) (.slice (some ⟨g, 0, none⟩) (l.length + 2) c)) h ?_
        intro k ρ A w2 hk h
        by_cases hlt : k < l.length
        · obtain ⟨gv, off, rfl, hcell⟩ := hcv k hlt
          have hlk := hl k
          have hck := cj k hlt
          refine wp_seq ?_
          apply seq_dag hmix h
          case hw =>
            apply Walk.cons
            · exact ok_move rfl rfl rfl
            apply Walk.cons
            · exact ok_move rfl rfl rfl
            apply Walk.cons
            · exact o_len22 rfl rfl rfl rfl
            apply Walk.cons
            · exact o_bin rfl rfl rfl rfl (r_lss (a := k) (b := l.length) (decide_eq_true hlt))
            exact Walk.nil _
          case hck => kernel_rfl
          case hQ =>
            intro ρ A w1 h
            refine if_true' h rfl (wp_skip ?_)
            refine Exit.then_normal ?_
            refine wp_seq (wp_block ?_)
            refine wp_seq ?_
            apply region_dag hmix h
            case hw =>
              apply Walk.cons
              · exact ok_move rfl rfl rfl
              apply Walk.cons
              · exact ok_move rfl rfl rfl
              apply Walk.cons
              · exact o_at22 rfl rfl rfl rfl (j := k) (by omega)
              apply Walk.cons
              · exact o_load24ro (n := l.getD k 0) rfl rfl rfl (fun h => h) hck
              apply Walk.cons
              · exact ok_move rfl rfl rfl
              apply Walk.cons
              · exact ok_move rfl rfl rfl
              apply Walk.cons
              · exact o_at22 rfl rfl rfl rfl (j := k) hlt
              apply Walk.cons
              · exact o_load24ro (n := l.getD k 0) rfl rfl rfl (fun h => h) hcell
              apply Walk.cons
              · exact o_neq24 rfl rfl rfl rfl hlk hlk (decide_eq_false (fun h => h rfl))
              exact Walk.nil _
            case hck => kernel_rfl
            case hQ =>
              intro ρ A w1 h
              refine if_false' h rfl (wp_skip ?_)
              refine Exit.block_normal (Exit.then_normal ?_)
              apply region_dag hmix h
              case hw =>
                apply Walk.cons
                · exact ok_move rfl rfl rfl
                apply Walk.cons
                · exact o_bin rfl rfl rfl rfl (r_addi (a := k) (b := 1) (by omega))
                apply Walk.cons
                · exact ok_assign rfl rfl rfl
                exact Walk.nil _
              case hck => kernel_rfl
              case hQ =>
                intro ρ A w1 h
                exact ⟨_, hlt, h.plain (keptS (.slice (some ⟨gv, off, none⟩) l.length cap0) (.slice (some ⟨g, 0, none⟩) (l.length + 2) c) (k + 1)) ⟨rfl, rfl, rfl, trivial⟩ trivial rfl⟩
        · obtain rfl : k = l.length := by omega
          refine wp_seq ?_
          apply seq_dag hmix h
          case hw =>
            apply Walk.cons
            · exact ok_move rfl rfl rfl
            apply Walk.cons
            · exact ok_move rfl rfl rfl
            apply Walk.cons
            · exact o_len22 rfl rfl rfl rfl
            apply Walk.cons
            · exact o_bin rfl rfl rfl rfl (r_lss (a := l.length) (b := l.length) (decide_eq_false hlt))
            exact Walk.nil _
          case hck => kernel_rfl
          case hQ =>
            intro ρ A w1 h
            refine if_false' h rfl (wp_exit (at_exit' ?_))
            refine Exit.then_normal ?_
            apply seq_dag hmix h
            case hw =>
              apply Walk.cons
              · exact ok_move rfl rfl rfl
              apply Walk.cons
              · exact ok_move rfl rfl rfl
              apply Walk.cons
              · exact o_len22 rfl rfl rfl rfl
              apply Walk.cons
              · exact o_at22 rfl rfl rfl rfl (j := l.length) (by omega)
              apply Walk.cons
              · exact o_load24ro (n := 7) rfl rfl rfl (fun h => h) c7
              apply Walk.cons
              · exact o_built rfl rfl (by kernel_rfl) (v := bv 7) (fun w => by kernel_rfl)
              apply Walk.cons
              · exact o_eql24 rfl rfl rfl rfl (by decide +kernel) (by decide +kernel) (decide_eq_true rfl)
              apply Walk.cons
              · exact ok_move rfl rfl rfl
              apply Walk.cons
              · exact ok_move rfl rfl rfl
              apply Walk.cons
              · exact ok_move rfl rfl rfl
              apply Walk.cons
              · exact o_len22 rfl rfl rfl rfl
              apply Walk.cons
              · exact o_bin rfl rfl rfl rfl (r_addi (a := l.length) (b := 1) (by omega))
              apply Walk.cons
              · exact o_at22 rfl rfl rfl rfl (j := l.length + 1) (by omega)
              apply Walk.cons
              · exact o_load24ro (n := 8) rfl rfl rfl (fun h => h) c8
              apply Walk.cons
              · exact o_built rfl rfl (by kernel_rfl) (v := bv 8) (fun w => by kernel_rfl)
              apply Walk.cons
              · exact o_eql24 rfl rfl rfl rfl (by decide +kernel) (by decide +kernel) (decide_eq_true rfl)
              apply Walk.cons
              · exact ok_pick_true rfl rfl rfl rfl
              apply Walk.cons
              · exact ok_assign rfl rfl rfl
              exact Walk.nil _
            case hck => kernel_rfl
            case hQ =>
              intro ρ A w1 h
              refine wp_ret ?_
              exact h.result_tmp Try.results19 rfl ⟨rfl, h.below⟩

set_option maxRecDepth 20000 in
set_option maxHeartbeats 1000000 in
theorem law3_any (l : List Nat) (hl : ∀ j, l.getD j 0 < 2 ^ 256) (hlen : l.length ≤ 4398046511102) (v : Value) (w : World) (hs : Sl w v l) : Calls Try.prog 3 #[v] w fun e w' => e = .returned (.bool true) ∧ Below w.heap.size w w' := by
  have hsum : sumT l l.length % pp < 2 ^ 256 := pp_lt _
  have hprod : prodT l l.length % pp < 2 ^ 256 := pp_lt _
  have hlen2 : l.length < 9223372036854775807 := by omega
  go_enter Try.func3, Try.ntmps3
  have h := Rep.start (N := 30) [v] [undef, undef, undef, undef, undef, undef, undef, undef, undef, undef, undef, undef, undef, undef, undef, undef, undef, undef, undef, undef, undef, undef, undef, undef, undef, undef, undef, undef, undef] w rfl
  apply seq_dag hmix h
  case hw =>
    apply Walk.cons
    · exact ok_assign rfl rfl rfl
    exact Walk.nil _
  case hck => kernel_rfl
  case hQ =>
    intro ρ A w1 h
    refine seq_list ?_
    refine wpl_step h rfl (ok_move rfl rfl rfl) rfl rfl rfl rfl ?_
    intro ρ A w1 h
    refine wpl_call (α := List Nat) (fun ex => { val := .s 7 0 l.length (l ++ [7, 8] ++ ex).length, new := some (7, ⟨catc (l ++ [7, 8] ++ ex), 24⟩) }) (fun _ => True) h rfl rfl fn14 [.v _] rfl ?_ rfl (fun _ => rfl) (fun _ => rfl) (fun _ => rfl) ?_
    · refine (lent_any l hlen v w1 (Sl.keeps (F := { W := w }) (fun _ h => h) h.keeps hs)).mono fun en w2 hn => ?_
      obtain ⟨g, cap, ex, rfl, hg, hb, hcap, hbel⟩ := hn
      subst hcap
      exact ⟨ex, _, g, trivial, rfl, by simp [AV.s, AV.to, upd], hbel.os, hbel.tape, hbel.output, hbel.size, fun b hb _ => hbel.block b hb, (fun _ h => by cases h), fun x hx => by cases hx; exact ⟨hg, hb⟩⟩
    · intro ex ρ A w1 _ h
      refine wpl_step h rfl (ok_assign rfl rfl rfl) rfl rfl rfl rfl ?_
      intro ρ A w1 h
      show Exit.then _ _ .normal A w1
      refine Exit.then_normal ?_
      have hcl : l.length ≤ (l ++ [7, 8] ++ ex).length := by simp
      generalize hc : (l ++ [7, 8] ++ ex).length = c at h hcl
      have h := h.plain ⟨[(0, .v v), (3, .s 7 0 l.length c)], [(7, ⟨catc (l ++ [7, 8] ++ ex), 24⟩)]⟩ ⟨rfl, rfl, trivial⟩ ⟨rfl, trivial⟩ rfl
      have hown : ∀ (ρ : Nat → Nat) (w1 : World), w1.heap[ρ 7]? = some (Blk.obj ⟨catc (l ++ [7, 8] ++ ex), 24⟩) → Sl w1 (.slice (some ⟨ρ 7, 0, none⟩) l.length c) l := fun ρ w1 hb => Sl.of_more (ex := [7, 8] ++ ex) (by rw [← List.append_assoc]; exact hb) hcl
      apply seq_dag hmix h
      case hw =>
        apply Walk.cons
        · exact ok_move rfl rfl rfl
        apply Walk.cons
        · exact ok_call_val rfl rfl fn15 [.s 7 0 l.length c] rfl (rd := [7]) (fun ρ w1 hm _ => add15_any l hl hlen2 _ w1 (hown ρ w1 (hm 7 (by simp) _ rfl)))
        apply Walk.cons
        · exact o_alloc24 4 rfl rfl
        apply Walk.cons
        · exact o_store24 rfl rfl rfl rfl rfl
        exact Walk.nil _
      case hck => kernel_rfl
      case hQ =>
        intro ρ A w1 h
        apply seq_dag hmix h
        case hw =>
          apply Walk.cons
          · exact ok_move rfl rfl rfl
          apply Walk.cons
          · exact ok_call_val rfl rfl fn16 [.s 7 0 l.length c] rfl (rd := [7]) (fun ρ w1 hm _ => mul16_any l hl hlen2 _ w1 (hown ρ w1 (hm 7 (by simp) _ rfl)))
          apply Walk.cons
          · exact o_alloc24 5 rfl rfl
          apply Walk.cons
          · exact o_store24 rfl rfl rfl rfl rfl
          exact Walk.nil _
        case hck => kernel_rfl
        case hQ =>
          intro ρ A w1 h
          apply seq_dag hmix h
          case hw =>
            apply Walk.cons
            · exact o_load24 rfl rfl rfl rfl
            apply Walk.cons
            · exact ok_move rfl rfl rfl
            apply Walk.cons
            · exact ok_call_val rfl rfl fn17 [.v _] rfl (rd := []) (fun ρ w1 _ hk => radd17_any l hl hlen2 v w1 (Sl.keeps (F := { W := w }) (fun _ h => h) hk hs))
            apply Walk.cons
            · exact o_eql24 rfl rfl rfl rfl hsum hsum (decide_eq_true rfl)
            apply Walk.cons
            · exact ok_move rfl rfl rfl
            apply Walk.cons
            · exact o_load24 rfl rfl rfl rfl
            apply Walk.cons
            · exact ok_move rfl rfl rfl
            apply Walk.cons
            · exact ok_call_val rfl rfl fn18 [.v _] rfl (rd := []) (fun ρ w1 _ hk => rmul18_any l hl hlen2 v w1 (Sl.keeps (F := { W := w }) (fun _ h => h) hk hs))
            apply Walk.cons
            · exact o_eql24 rfl rfl rfl rfl hprod hprod (decide_eq_true rfl)
            apply Walk.cons
            · exact ok_pick_true rfl rfl rfl rfl
            apply Walk.cons
            · exact ok_move rfl rfl rfl
            apply Walk.cons
            · exact ok_move rfl rfl rfl
            apply Walk.cons
            · exact ok_move rfl rfl rfl
            apply Walk.cons
            · exact ok_call_val rfl rfl fn19 [.s 7 0 l.length c, .v _] rfl (rd := [7]) (fun ρ w1 hm hk => kept_any l ex hl hlen v (ρ 7) c hc.symm w1 (Sl.keeps (F := { W := w }) (fun _ h => h) hk hs) (hm 7 (by simp) _ rfl))
            apply Walk.cons
            · exact ok_pick_true rfl rfl rfl rfl
            apply Walk.cons
            · exact ok_move rfl rfl rfl
            apply Walk.cons
            · exact ok_call_val rfl rfl fn20 [] rfl (rd := []) (fun ρ w _ _ => awake_any w)
            apply Walk.cons
            · exact ok_pick_true rfl rfl rfl rfl
            apply Walk.cons
            · exact ok_assign rfl rfl rfl
            exact Walk.nil _
          case hck => kernel_rfl
          case hQ =>
            intro ρ A w1 h
            refine wp_ret ?_
            exact h.result_tmp Try.results3 rfl ⟨rfl, h.below⟩
end Go.Proofs.Ytnbdeajjfhlmnaa
