/-
  aditlaw01: lent and kept.
-/
import Derived.Test.YtnbdeajjfhlmnaaApp
namespace Go.Proofs.Ytnbdeajjfhlmnaa
open Go.RowKit

/-- what 'lent' hands back: the elements, and two more behind them -/
def Lent (w w' : World) (e : Ending) (l : List Nat) : Prop :=
  ∃ g cap ex, e = .returned (.slice (some ⟨g, 0, none⟩) l.length cap) ∧ w.heap.size ≤ g ∧ w'.heap[g]? = some (Blk.obj ⟨catc (l ++ [7, 8] ++ ex), 24⟩) ∧ cap = (l ++ [7, 8] ++ ex).length ∧ Below w.heap.size w w'
theorem run_empty (w : World) : (Instr.buildSlice 22 0 #[]).run Try.prog w = .ok (.slice (some ⟨w.heap.size, 0, none⟩) 0 0) (w.alloc (Blk.obj ⟨catc [], 24⟩)) := by
  simp [Instr.buildSlice, run_underlying u22, run_sizeOf' sz24, Instr.fill, newRow, Blk.obj, catc, catl]
  congr 2
  exact Array.ext' (by simp)
theorem o_empty {F : Fr} {ops : Array Oper} {S : St} {o : Oper} (i : Nat) (hw : want ops S o = some true) (ho : o.op = .buildSlice 22 0 #[]) : OpOK Try.prog F ops o S { val := .s i 0 0 0, new := some (i, ⟨catc [], 24⟩) } := by
  refine .of hw fun ρ a w Q K _ _ _ h4 => ?_
  have hr : (execOp a.eval o).run Try.prog w = .ok (.value (.slice (some ⟨w.heap.size, 0, none⟩) 0 0)) (w.alloc (Blk.obj ⟨catc [], 24⟩)) := by
    simp only [execOp, ho]
    rw [show (#[] : Array (Nat × Operand)).map (fun x => (x.1, a.eval x.2)) = #[] by simp, Sem.run_bind, run_empty]
    rfl
  unfold Oper.wp
  rw [hr, Oper.upon_value]
  exact h4 _ _ w.heap.size (Out.alloc rfl rfl (by simp [AV.s, AV.to, upd]))
theorem o_head22 {F : Fr} {ops : Array Oper} {S : St} {o : Oper} (hw : want ops S o = some true) {x y : Operand} (ho : o.op = .slice 22 x none (some y) none) {i len cap n : Nat} (hx : S.av x = some (.s i 0 len cap)) (hy : S.av y = some (.v (.int .i64 n))) (hn : n ≤ cap) :
    OpOK Try.prog F ops o S { val := .s i 0 n cap } :=
  ok_value hw fun ρ a w h2 _ _ => by
    have e1 : a.eval x = .slice (some ⟨ρ i, 0, none⟩) len cap := h2 x (by simp [ho, Op.operands]) _ hx
    have e2 : a.eval y = .int .i64 n := h2 y (by simp [ho, Op.operands]) _ hy
    show (execOp a.eval o).run Try.prog w = .ok (.value (.slice (some ⟨ρ i, 0, none⟩) n cap)) w
    by_cases hc : cap = 0
    · subst hc
      obtain rfl : n = 0 := by omega
      simp [execOp, ho, e1, e2, Instr.sliceAt, Instr.slice, Instr.sliceBounds, Instr.sliceBound, run_underlying u22, asIntOf, run_sizeOf' sz24]
    · simp [execOp, ho, e1, e2, Instr.sliceAt, Instr.slice, Instr.sliceBounds, Instr.sliceBound, run_underlying u22, asIntOf, run_sizeOf' sz24, hn, hc, add_none]
theorem o_head22ro {F : Fr} {ops : Array Oper} {S : St} {o : Oper} (hw : want ops S o = some true) {x y : Operand} (ho : o.op = .slice 22 x none (some y) none) {g len cap n : Nat} (hx : S.av x = some (.v (.slice (some ⟨g, 0, none⟩) len cap))) (hy : S.av y = some (.v (.int .i64 n))) (hn : n ≤ cap) (hc : cap ≠ 0) :
    OpOK Try.prog F ops o S { val := .v (.slice (some ⟨g, 0, none⟩) n cap) } :=
  ok_value hw fun ρ a w h2 _ _ => by
    have e1 : a.eval x = .slice (some ⟨g, 0, none⟩) len cap := h2 x (by simp [ho, Op.operands]) _ hx
    have e2 : a.eval y = .int .i64 n := h2 y (by simp [ho, Op.operands]) _ hy
    show (execOp a.eval o).run Try.prog w = .ok (.value (.slice (some ⟨g, 0, none⟩) n cap)) w
    simp [execOp, ho, e1, e2, Instr.sliceAt, Instr.slice, Instr.sliceBounds, Instr.sliceBound, run_underlying u22, asIntOf, run_sizeOf' sz24, hn, hc, add_none]
theorem Rep.result_s24 {P : Program} {N : Nat} {S : St} {ρ : Nat → Nat} {W : World} {a : Act} {w : World} (h : Rep N S ρ { W := W } a w) {fn : Func} {p : Tmp} {i len cap : Nat} {b : Blk}
    (hfn : fn.results = #[.tmp p]) (hs : S.slot p = some (.s i 0 len cap)) (hb : S.blk i = some b) {R : Ending → World → Prop}
    (hR : ∀ g, W.heap.size ≤ g → w.heap[g]? = some b.obj → Below W.heap.size W w → R (.returned (.slice (some ⟨g, 0, none⟩) len cap)) w) : bodyPost P fn R .ret a w := by
  refine ⟨h.defers, .slice (some ⟨ρ i, 0, none⟩) len cap, ?_, hR (ρ i) ?_ (h.mem i _ hb) h.below⟩
  · have hp := h.slots _ _ hs
    simp [results, hfn, hp, AV.s, AV.to]
  · rcases h.own i _ hb with h | h
    · exact h
    · exact False.elim h
def lentT (v : Value) (l ex : List Nat) (c : Nat) : St := ⟨[(0, .v v), (3, .s 50 0 (l.length + 2) c)], [(50, ⟨catc (l ++ [7, 8] ++ ex), 24⟩)]⟩
set_option maxRecDepth 20000 in
set_option maxHeartbeats 1000000 in
theorem lent_any (l : List Nat) (hlen : l.length ≤ 4398046511102) (v : Value) (w : World) (hs : Sl w v l) : Calls Try.prog 14 #[v] w fun e w' => Lent w w' e l := by
  go_enter Try.func14, Try.ntmps14
  have h := Rep.start (N := 15) [v] [undef, undef, undef, undef, undef, undef, undef, undef, undef, undef, undef, undef, undef, undef] w rfl
  apply seq_dag hmix h
  case hw =>
    apply Walk.cons
    · exact ok_assign rfl rfl rfl
    exact Walk.nil _
  case hck => kernel_rfl
  case hQ =>
    intro ρ A w1 h
    refine wp_seq (wp_mono (Q := fun e a1 w1 => e = .normal ∧ ∃ ex c ρ1, c = (l ++ [7, 8] ++ ex).length ∧ Rep 15 (lentT v l ex c) ρ1 { W := w } a1 w1) ?_ ?_)
    · refine last_list ?_
      refine wpl_step h rfl (o_empty 40 rfl rfl) rfl rfl rfl rfl ?_
      intro ρ A w1 h
      refine wpl_step h rfl (ok_move rfl rfl rfl) rfl rfl rfl rfl ?_
      intro ρ A w1 h
      have hs1 := Sl.keeps (F := { W := w }) (fun _ h => h) h.keeps hs
      refine wpl_app24 41 (m := []) (ex := []) (n := l) h rfl rfl rfl rfl rfl rfl rfl hs1 (by simp only [List.length_nil]; omega) rfl rfl ?_ ?_
      · intro ρ A w1 hr h
        obtain rfl : l = [] := List.eq_nil_of_length_eq_zero (by simpa using hr)
        have h := h.plain ⟨[(0, .v v), (6, .s 40 0 0 0)], [(40, ⟨catc ([] ++ []), 24⟩)]⟩ ⟨rfl, rfl, trivial⟩ ⟨rfl, trivial⟩ rfl
        refine wpl_step h rfl (o_built rfl rfl (by kernel_rfl) (v := bv 7) (fun w => by kernel_rfl)) rfl rfl rfl rfl ?_
        intro ρ A w1 h
        refine wpl_step h rfl (o_built rfl rfl (by kernel_rfl) (v := bv 8) (fun w => by kernel_rfl)) rfl rfl rfl rfl ?_
        intro ρ A w1 h
        refine wpl_step h rfl (o_lit2 60 rfl rfl rfl rfl rfl) rfl rfl rfl rfl ?_
        intro ρ A w1 h
        have hs2 : Sl w1 ((AV.s 60 0 2 2).to ρ) [7, 8] := Sl.of_blk (h.mem 60 _ rfl)
        refine wpl_app24 50 (m := []) (ex := []) (n := [7, 8]) h rfl rfl rfl rfl rfl (by simp) rfl hs2 (by simp only [List.length_cons, List.length_nil]; omega) rfl rfl ?_ ?_
        · intro ρ A w1 hr h
          refine wpl_step h rfl (ok_assign rfl rfl rfl) rfl rfl rfl rfl ?_
          intro ρ A w1 h
          have h := h.plain ⟨[(0, .v v), (3, .s 40 0 (([] : List Nat).length + 2) _)], [(40, ⟨catc ([] ++ [7, 8] ++ List.drop 2 ([])), 24⟩)]⟩ ⟨rfl, rfl, trivial⟩ ⟨rfl, trivial⟩ rfl
          have h := h.ren (fun k => if k = 50 then 40 else k) (lentT v [] (List.drop 2 ([])) _) ⟨rfl, rfl, trivial⟩ ⟨rfl, trivial⟩ rfl rfl
          exact ⟨rfl, _, _, _, by first | (exfalso; simp at hr; done) | (simp at hr ⊢; omega), h⟩
        · intro z ρ A w1 h
          refine wpl_step h rfl (ok_assign rfl rfl rfl) rfl rfl rfl rfl ?_
          intro ρ A w1 h
          exact ⟨rfl, List.replicate z 0, _, _, by simp <;> omega, h.plain (lentT v [] (List.replicate z 0) (([] : List Nat).length + 2 + z)) ⟨rfl, rfl, trivial⟩ ⟨rfl, trivial⟩ rfl⟩
      · intro z ρ A w1 h
        have h := h.plain ⟨[(0, .v v), (6, .s 41 0 l.length (l.length + z))], [(41, ⟨catc (l ++ List.replicate z 0), 24⟩)]⟩ ⟨rfl, by simp only [List.length_nil, Nat.zero_add]; rfl, trivial⟩ ⟨by simp only [List.nil_append]; rfl, trivial⟩ rfl
        refine wpl_step h rfl (o_built rfl rfl (by kernel_rfl) (v := bv 7) (fun w => by kernel_rfl)) rfl rfl rfl rfl ?_
        intro ρ A w1 h
        refine wpl_step h rfl (o_built rfl rfl (by kernel_rfl) (v := bv 8) (fun w => by kernel_rfl)) rfl rfl rfl rfl ?_
        intro ρ A w1 h
        refine wpl_step h rfl (o_lit2 60 rfl rfl rfl rfl rfl) rfl rfl rfl rfl ?_
        intro ρ A w1 h
        have hs2 : Sl w1 ((AV.s 60 0 2 2).to ρ) [7, 8] := Sl.of_blk (h.mem 60 _ rfl)
        refine wpl_app24 50 (m := l) (ex := List.replicate z 0) (n := [7, 8]) h rfl rfl rfl rfl rfl (by simp) rfl hs2 (by simp only [List.length_cons, List.length_nil]; omega) rfl rfl ?_ ?_
        · intro ρ A w1 hr h
          refine wpl_step h rfl (ok_assign rfl rfl rfl) rfl rfl rfl rfl ?_
          intro ρ A w1 h
          have h := h.plain ⟨[(0, .v v), (3, .s 41 0 (l.length + 2) _)], [(41, ⟨catc (l ++ [7, 8] ++ List.drop 2 (List.replicate z 0)), 24⟩)]⟩ ⟨rfl, rfl, trivial⟩ ⟨rfl, trivial⟩ rfl
          have h := h.ren (fun k => if k = 50 then 41 else k) (lentT v l (List.drop 2 (List.replicate z 0)) _) ⟨rfl, rfl, trivial⟩ ⟨rfl, trivial⟩ rfl rfl
          exact ⟨rfl, _, _, _, by first | (exfalso; simp at hr; done) | (simp at hr ⊢; omega), h⟩
        · intro z ρ A w1 h
          refine wpl_step h rfl (ok_assign rfl rfl rfl) rfl rfl rfl rfl ?_
          intro ρ A w1 h
          exact ⟨rfl, List.replicate z 0, _, _, by simp <;> omega, h.plain (lentT v l (List.replicate z 0) (l.length + 2 + z)) ⟨rfl, rfl, trivial⟩ ⟨rfl, trivial⟩ rfl⟩
    · rintro e a1 w1 ⟨rfl, ex, c, ρ1, hc, h⟩
      refine Exit.then_normal ?_
      obtain ⟨ad, cap0, hv, _, _⟩ := id hs
      subst hv
      apply seq_dag hmix h
      case hw =>
        apply Walk.cons
        · exact ok_move rfl rfl rfl
        apply Walk.cons
        · exact ok_move rfl rfl rfl
        apply Walk.cons
        · exact o_len22 rfl rfl rfl rfl
        apply Walk.cons
        · exact o_head22 rfl rfl rfl rfl (by rw [hc]; simp)
        apply Walk.cons
        · exact ok_assign rfl rfl rfl
        exact Walk.nil _
      case hck => kernel_rfl
      case hQ =>
        intro ρ A w1 h
        refine wp_ret ?_
        exact h.result_s24 Try.results14 rfl rfl (fun g hg hb hbel => ⟨g, c, ex, rfl, hg, hb, hc, hbel⟩)
end Go.Proofs.Ytnbdeajjfhlmnaa
