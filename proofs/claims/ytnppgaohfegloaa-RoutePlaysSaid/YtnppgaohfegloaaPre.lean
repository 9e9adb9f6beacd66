/-
  The rows below a node, in their order: what the iterator of a node goes over.
-/
import Derived.Test.YtnppgaohfegloaaYield
namespace Go.Proofs.Ytnppgaohfegloaa
open Go.RowKit

section
variable {F : Fr} {ops : Array Oper} {S : St} {o : Oper}
/-- a function value that has caught a block -/
def fnA (g i : Nat) : AV := ⟨some i, fun b => .func (.func g) #[] #[.pointer (some ⟨b, 0, none⟩)]⟩
theorem ok_makeFn (g : Nat) (hw : want ops S o = some true) {x : Operand} (ho : o.op = .makeFunc (.func g) #[] #[x]) {i : Nat} (hx : S.av x = some (.p i 0)) : OpOK Try.prog F ops o S { val := fnA g i } :=
  ok_value hw fun ρ a w h1 _ _ => by
    have e1 : a.eval x = .pointer (some ⟨ρ i, 0, none⟩) := h1 x (by simp [ho, Op.operands]) _ hx
    simp [execOp, ho, e1, Instr.makeFunc, fnA, AV.to]
end
theorem rows_any (p : Option Addr) (w : World) : Calls Try.prog 31 #[.pointer p] w fun e w' => ∃ q, e = .returned (.func (.func 34) #[] #[.pointer (some ⟨q, 0, none⟩)]) ∧ hp w' q = some (cobj #[.pointer p] 57) ∧ w.heap.size ≤ q ∧ Below w.heap.size w w' := by
  go_enter Try.func31, Try.ntmps31
  have h := Rep.start (N := 4) [.pointer p] [undef, undef, undef] w rfl
  apply seq_dag hmix h
  case hw =>
    apply Walk.cons
    · exact ok_box 1 rfl rfl rfl rfl (cs := #[.pointer p])
    apply Walk.cons
    · exact ok_assign rfl rfl rfl
    exact Walk.nil _
  case hck => kernel_rfl
  case hQ =>
    intro ρ A w1 h
    apply seq_dag hmix h
    case hw =>
      apply Walk.cons
      · exact ok_makeFn 34 rfl rfl rfl
      apply Walk.cons
      · exact ok_assign rfl rfl rfl
      exact Walk.nil _
    case hck => kernel_rfl
    case hQ =>
      intro ρ A w1 h
      have hm := h.mem 1 _ rfl
      have ho := h.own 1 _ rfl (ρ.num 1) (by rw [hm.2])
      refine wp_ret ?_
      refine h.result_av Try.results31 rfl ?_
      refine ⟨ρ.num 1, rfl, hm.1, ?_, h.below⟩
      rcases ho with h1 | h1
      · exact h1
      · exact h1.elim
section
variable {F : Fr} {ops : Array Oper} {S : St} {o : Oper}
theorem o_rows (i : Nat) (hw : want ops S o = some true) {args : Array Operand} {ts : Array TypeId} (ho : o.op = .call { callee := .value (.func 31), args := args, argTypes := ts }) {p : Option Addr} (ha : args.toList.mapM S.av = some [.v (.pointer p)]) :
    OpOK Try.prog F ops o S { val := fnA 34 i, new := some (i, .mk #[.pointer p] 57) } :=
  ok_call hw ho fn31 _ ha fun ρ w _ _ => (rows_any p w).mono fun en w' h => by
    obtain ⟨q, rfl, h1, h2, h3⟩ := h
    exact ⟨_, ⟨q, fun _ => False, fun n => n = q⟩, rfl, by simp [fnA, AV.to, upd], h3.os, h3.tape, h3.output, h3.size, fun b hb _ => h3.block b hb, (fun _ h => by cases h), (fun y hy => by cases hy; exact ⟨⟨h1, rfl⟩, fun b hb => by rw [show b = q from hb]; exact h2⟩), (fun _ _ h => by cases h)⟩
end
def ownL (M : Tab) (v : Bool) (d m : Nat) : List RowR := match M.own v d m with | some o => [⟨v, m * 2 ^ (128 - d), d, o⟩] | none => []
def below (ids : Ids) (M : Tab) (v : Bool) : Nat → Nat → Nat → List RowR
  | 0, _, _ => []
  | f + 1, d, m => match ids v d m with
    | none => []
    | some _ => ownL M v d m ++ below ids M v f (d + 1) (2 * m) ++ below ids M v f (d + 1) (2 * m + 1)
def upto (own : List RowR) (L : Nat → List RowR) : Nat → List RowR
  | 0 => own
  | i + 1 => upto own L i ++ L i
/-- what a call of a node's iterator leans on -/
structure Facts (ids : Ids) (M : Tab) (B q y : Nat) (p yv : Value) (w : World) (Ds : List Nat) : Prop where
  cq : w.heap[q]? = some (cobj #[p] 57)
  cy : w.heap[y]? = some (cobj #[yv] 81)
  nodes : NodesIn ids M w
  marks : ∀ D ∈ Ds, B ≤ D ∧ w.heap[D]? = some (.deferred (some []))
  nodup : Ds.Nodup
  size : B ≤ w.heap.size
theorem Facts.abide {ids : Ids} {M : Tab} {B q y : Nat} {p yv : Value} {w : World} {Ds : List Nat} (h : Facts ids M B q y p yv w Ds) : Abide w.heap.size (fun W => Facts ids M B q y p yv W Ds) := fun A C hA ht =>
  ⟨ht.same _ _ hA.cq (.inr rfl), ht.same _ _ hA.cy (.inr rfl), hA.nodes.kept (ht.kept _), fun D hD => ⟨(hA.marks D hD).1, ht.same _ _ (hA.marks D hD).2 (.inl (lt_of_heap (h.marks D hD).2))⟩, hA.nodup, Nat.le_trans hA.size ht.size⟩
theorem Facts.round {ids : Ids} {M : Tab} {B q y : Nat} {p yv : Value} {w w' : World} {Ds : List Nat} (h : Facts ids M B q y p yv w Ds) (hk : Kept kt34 w w') (hn : NK B w w') : Facts ids M B q y p yv w' Ds :=
  ⟨hk.2 _ _ _ rfl h.cq, hk.2 _ _ _ rfl h.cy, h.nodes.kept hk, fun D hD => ⟨(h.marks D hD).1, hn.same _ _ (h.marks D hD).1 (h.marks D hD).2 rfl⟩, h.nodup, Nat.le_trans h.size hk.1⟩
theorem Facts.step {ids : Ids} {M : Tab} {B q y : Nat} {p yv : Value} {w w' : World} {Ds : List Nat} (h : Facts ids M B q y p yv w Ds) (hb : Below w.heap.size w w') : Facts ids M B q y p yv w' Ds :=
  h.round ((Turn.of_below (B := 0) hb).kept _) (NK.of_below hb)
theorem Facts.mark {ids : Ids} {M : Tab} {B q y : Nat} {p yv : Value} {w : World} {Ds : List Nat} {D : Nat} (h : Facts ids M B q y p yv w Ds) (hB : B ≤ D) (hD : w.heap[D]? = some (.deferred (some []))) (hn : D ∉ Ds) : Facts ids M B q y p yv w (D :: Ds) :=
  ⟨h.cq, h.cy, h.nodes, fun D' hD' => by
    rcases List.mem_cons.1 hD' with rfl | hD'
    · exact ⟨hB, hD⟩
    · exact h.marks D' hD', List.nodup_cons.2 ⟨hn, h.nodup⟩, h.size⟩
theorem upto_pre {own : List RowR} {L : Nat → List RowR} {i : Nat} (hi : i < 2) {pre : List RowR} (h : pre <+: L i) : upto own L i ++ pre <+: upto own L 2 := by
  have h1 : upto own L i ++ pre <+: upto own L (i + 1) := (List.prefix_append_right_inj _).2 h
  refine h1.trans ?_
  obtain rfl | rfl : i = 0 ∨ i = 1 := by omega
  · exact List.prefix_append _ _
  · exact List.prefix_refl _
theorem ptrOf_ptr (x : Option Nat) : ∃ p, ptrOf x = .pointer p := by cases x <;> exact ⟨_, rfl⟩
theorem kids_get (ids : Ids) (v : Bool) (d m i : Nat) (hi : i < 2) : (#[ptrOf (ids v (d + 1) (2 * m)), ptrOf (ids v (d + 1) (2 * m + 1))] : Array Value)[i]? = some (ptrOf (ids v (d + 1) (2 * m + i))) := by
  obtain rfl | rfl : i = 0 ∨ i = 1 := by omega
  · rfl
  · rfl
theorem Rep.of_actD {N : Nat} {a : Act} {D : List Deferred} (w : World) (hD : a.defers = D) (hN : a.tmps.size = N) (sl : List (Nat × AV)) (hs : slotsOf a sl) : Rep N ⟨sl, []⟩ ρ0 { W := w, D := D } a w := by
  subst hD
  exact Rep.of_act w hN sl hs
theorem map_one {f : Operand → Value} {x : Operand} {v : Value} (h : f x = v) : (#[x] : Array Operand).map f = #[v] := by simp [h]
theorem wpOpIn_yes {P : Program} {r : Option Nat} {ops : Array Oper} {Q : Exit → Act → World → Prop} {i : Nat} {K : Act → World → Prop} {a : Act} {w : World} {o : Oper} (ho : ops[i]? = some o) (hw : Region.wanted o (yielded ops a.tmps) = true) (h : o.wpIn (FW r) 0 P a w K Q) : wpOpIn (FW r) 0 P ops Q i K a w := by
  unfold wpOpIn
  rw [ho]
  simp only [hw, if_true]
  exact h
theorem wpListIn_yes {P : Program} {r : Option Nat} {ops : Array Oper} {Q : Exit → Act → World → Prop} {rest : List Oper} {a : Act} {w : World} {o : Oper} (hw : Region.wanted o (yielded ops a.tmps) = true) (h : o.wpIn (FW r) 0 P a w (wpListIn (FW r) 0 P ops Q rest) Q) : wpListIn (FW r) 0 P ops Q (o :: rest) a w := by
  unfold wpListIn
  rw [if_pos hw]
  exact h
theorem prefix_in {α : Type} {a b c xs : List α} {x : α} (hx : xs = a ++ b ++ c) {pre : List α} (h : pre ++ [x] <+: b) : (a ++ pre) ++ [x] <+: xs := by
  obtain ⟨t, rfl⟩ := h
  exact ⟨t ++ c, by rw [hx]; simp⟩
theorem no_outgrown {K : Act → World → Prop} : ¬ LetsOut (Exit.then K (fun _ _ _ => False)) := fun ⟨_, _, h⟩ => h
set_option maxRecDepth 20000 in
set_option maxHeartbeats 1000000 in
theorem nil34 (w0 : World) (q : Nat) (hq0 : w0.heap[q]? = some (cobj #[.pointer none] 57)) : Iter Try.prog 34 #[.pointer (some ⟨q, 0, none⟩)] encR kt34 [] w0 := by
  intro l J Jx W hkept hJ hJx hY hj0
  refine calls_of_wp_marks Try.func34 rfl ?_
  simp only [Try.ntmps34, List.size_toArray, List.length_cons, List.length_nil, Nat.reduceAdd, Nat.reduceSub, Array.replicate_succ, Array.replicate_zero, List.push_toArray, List.append_toArray, List.nil_append, List.cons_append]
  have h := Rep.start (N := 48) [.func (.yield l) #[] #[], .pointer (some ⟨q, 0, none⟩)] [undef, undef, undef, undef, undef, undef, undef, undef, undef, undef, undef, undef, undef, undef, undef, undef, undef, undef, undef, undef, undef, undef, undef, undef, undef, undef, undef, undef, undef, undef, undef, undef, undef, undef, undef, undef, undef, undef, undef, undef, undef, undef, undef, undef, undef, undef] W rfl
  have hq := hkept.2 _ _ _ rfl hq0
  have hc : W.cell? ⟨q, 0, none⟩ = some (.pointer none) := by rw [cell_of_obj (show hp W q = _ from hq)]; rfl
  apply seq_dag hmix h
  case hw =>
    apply Walk.cons
    · exact ok_box 2 rfl rfl rfl rfl (cs := #[.func (.yield l) #[] #[]])
    exact Walk.nil _
  case hck => kernel_rfl
  case hQ =>
    intro ρ A w1 h
    refine wp_seq ?_
    apply seq_dag hmix h
    case hw =>
      apply Walk.cons
      · exact ok_load_cell_ro rfl rfl rfl (fun h => h) one57 hc
      apply Walk.cons
      · exact ok_pure rfl (by kernel_rfl) (v := .bool true) (fun w => by kernel_rfl)
      apply Walk.cons
      · exact ok_move rfl rfl rfl
      apply Walk.cons
      · first | exact ok_skip rfl | exact ok_skip_u rfl | exact ok_load_cell rfl rfl rfl rfl one57 rfl
      apply Walk.cons
      · first | exact ok_skip rfl | exact ok_skip_u rfl | exact ok_nil rfl rfl rfl | exact ok_nil_v rfl rfl rfl
      apply Walk.cons
      · first | exact ok_skip rfl | exact ok_skip_u rfl | exact ok_fld rfl rfl rfl fo64_1 rfl | exact ok_fld_v rfl rfl rfl fo64_1 rfl
      apply Walk.cons
      · first | exact ok_skip rfl | exact ok_skip_u rfl | exact ok_load_cell rfl rfl rfl rfl one4 rfl
      apply Walk.cons
      · first | exact ok_skip rfl | exact ok_skip_u rfl | exact ok_move rfl rfl rfl
      apply Walk.cons
      · first | exact ok_skip rfl | exact ok_skip_u rfl
      apply Walk.cons
      · first | exact ok_skip rfl | exact ok_skip_u rfl | exact ok_load_cell rfl rfl rfl rfl one57 rfl
      apply Walk.cons
      · first | exact ok_skip rfl | exact ok_skip_u rfl | exact ok_nil rfl rfl rfl | exact ok_nil_v rfl rfl rfl
      apply Walk.cons
      · first | exact ok_skip rfl | exact ok_skip_u rfl | exact ok_fld rfl rfl rfl fo64_3 rfl | exact ok_fld_v rfl rfl rfl fo64_3 rfl
      apply Walk.cons
      · first | exact ok_skip rfl | exact ok_skip_u rfl | exact o_load24 rfl rfl rfl rfl | exact o_load24p rfl rfl rfl rfl
      apply Walk.cons
      · first | exact ok_skip rfl | exact ok_skip_u rfl | exact ok_load_cell rfl rfl rfl rfl one57 rfl
      apply Walk.cons
      · first | exact ok_skip rfl | exact ok_skip_u rfl | exact ok_nil rfl rfl rfl | exact ok_nil_v rfl rfl rfl
      apply Walk.cons
      · first | exact ok_skip rfl | exact ok_skip_u rfl | exact ok_fld rfl rfl rfl fo64_4 rfl | exact ok_fld_v rfl rfl rfl fo64_4 rfl
      apply Walk.cons
      · first | exact ok_skip rfl | exact ok_skip_u rfl | exact ok_load_cell rfl rfl rfl rfl one3 rfl
      apply Walk.cons
      · first | exact ok_skip rfl | exact ok_skip_u rfl
      apply Walk.cons
      · first | exact ok_skip rfl | exact ok_skip_u rfl | exact ok_load_cell rfl rfl rfl rfl one57 rfl
      apply Walk.cons
      · first | exact ok_skip rfl | exact ok_skip_u rfl | exact ok_nil rfl rfl rfl | exact ok_nil_v rfl rfl rfl
      apply Walk.cons
      · first | exact ok_skip rfl | exact ok_skip_u rfl | exact ok_fld rfl rfl rfl fo64_2 rfl | exact ok_fld_v rfl rfl rfl fo64_2 rfl
      apply Walk.cons
      · first | exact ok_skip rfl | exact ok_skip_u rfl | exact ok_load_cell rfl rfl rfl rfl one3 rfl
      apply Walk.cons
      · first | exact ok_skip rfl | exact ok_skip_u rfl
      apply Walk.cons
      · first | exact ok_skip rfl | exact ok_skip_u rfl
      apply Walk.cons
      · first | exact ok_skip rfl | exact ok_skip_u rfl | exact ok_not rfl rfl rfl rfl
      apply Walk.cons
      · first | exact ok_skip rfl | exact ok_skip_u rfl | exact ok_pick_true rfl rfl rfl rfl | exact ok_pick_false rfl rfl rfl rfl
      apply Walk.cons
      · first | exact ok_pick_true rfl rfl rfl rfl | exact ok_pick_false rfl rfl rfl rfl
      exact Walk.nil _
    case hck => kernel_rfl
    case hQ =>
      intro ρ A w1 h
      refine if_true' h rfl (wp_ret ?_)
      repeat (first | refine Exit.thenRet ?_ | refine Exit.blockRet ?_)
      refine ret_marks (B := W.heap.size) [] _ h.defers (fun D hD => by cases hD) List.nodup_nil fun w' ht => ?_
      exact ⟨_, by simp [results, Try.results34]; rfl, ⟨_, rfl⟩, .inl (hJ [] _ _ (hJ [] _ _ hj0 (h.turned _)) ht)⟩
set_option maxRecDepth 20000 in
set_option maxHeartbeats 4000000 in
theorem some34 {ids : Ids} {M : Tab} {v : Bool} {d m b : Nat} (hb : ids v d m = some b) (L : Nat → List RowR)
    (hL : ∀ i, i < 2 → ∀ w0 q, w0.heap[q]? = some (cobj #[ptrOf (ids v (d + 1) (2 * m + i))] 57) → NodesIn ids M w0 → Iter Try.prog 34 #[.pointer (some ⟨q, 0, none⟩)] encR kt34 (L i) w0)
    (w0 : World) (q : Nat) (hq0 : w0.heap[q]? = some (cobj #[.pointer (some ⟨b, 0, none⟩)] 57)) (hn0 : NodesIn ids M w0) : Iter Try.prog 34 #[.pointer (some ⟨q, 0, none⟩)] encR kt34 (upto (ownL M v d m) L 2) w0 := by
  intro l J Jx W hkept hJ hJx hY hj0
  refine calls_of_wp_marks Try.func34 rfl ?_
  simp only [Try.ntmps34, List.size_toArray, List.length_cons, List.length_nil, Nat.reduceAdd, Nat.reduceSub, Array.replicate_succ, Array.replicate_zero, List.push_toArray, List.append_toArray, List.nil_append, List.cons_append]
  have h := Rep.start (N := 48) [.func (.yield l) #[] #[], .pointer (some ⟨q, 0, none⟩)] [undef, undef, undef, undef, undef, undef, undef, undef, undef, undef, undef, undef, undef, undef, undef, undef, undef, undef, undef, undef, undef, undef, undef, undef, undef, undef, undef, undef, undef, undef, undef, undef, undef, undef, undef, undef, undef, undef, undef, undef, undef, undef, undef, undef, undef, undef] W rfl
  apply seq_dag hmix h
  case hw =>
    apply Walk.cons
    · exact ok_box 2 rfl rfl rfl rfl (cs := #[.func (.yield l) #[] #[]])
    exact Walk.nil _
  case hck => kernel_rfl
  case hQ =>
    intro ρ A w1 h
    have hy0 := (h.mem 2 _ rfl).1
    obtain ⟨y, hy⟩ : ∃ y, ρ.num 2 = y := ⟨_, rfl⟩
    have hj1 := hJ [] _ _ hj0 (h.turned _)
    have hf : Facts ids M W.heap.size q y (.pointer (some ⟨b, 0, none⟩)) (.func (.yield l) #[] #[]) w1 [] :=
      ⟨((h.turned 0).kept kt34).2 _ _ _ rfl (hkept.2 _ _ _ rfl hq0), by rw [← hy]; exact hy0, (hn0.kept hkept).kept ((h.turned 0).kept _), (fun D hD => by cases hD), List.nodup_nil, h.lies.size⟩
    have h := h.rebase [(1, .v (.pointer (some ⟨q, 0, none⟩))), (2, .v (.pointer (some ⟨y, 0, none⟩)))] ⟨⟨_, rfl, _, rfl, rfl⟩, ⟨_, rfl, _, rfl, by rw [← hy]; rfl⟩, trivial⟩
    clear hy hy0 hj0 hkept hq0 hn0
    have hc : w1.cell? ⟨q, 0, none⟩ = some (.pointer (some ⟨b, 0, none⟩)) := by rw [cell_of_obj (show hp w1 q = _ from hf.cq)]; rfl
    have hcy : w1.cell? ⟨y, 0, none⟩ = some (.func (.yield l) #[] #[]) := by rw [cell_of_obj (show hp w1 y = _ from hf.cy)]; rfl
    have hnd := fun j => cell_of_obj (show hp w1 b = _ from hf.nodes _ _ _ _ hb) j
    obtain ⟨K1, hK1⟩ : ∃ K1 : Act → World → Prop, K1 = fun a w => Facts ids M W.heap.size q y (.pointer (some ⟨b, 0, none⟩)) (.func (.yield l) #[] #[]) w [] ∧ J (ownL M v d m) w ∧ ∃ ρ, Rep 48 ⟨[(1, .v (.pointer (some ⟨q, 0, none⟩))), (2, .v (.pointer (some ⟨y, 0, none⟩)))], []⟩ ρ { W := w } a w := ⟨_, rfl⟩
    refine wp_seq ?_
    refine wp_join K1 ?_ ?_
    · cases ho : M.own v d m with
      | none =>
        have hown : ownL M v d m = [] := by rw [ownL, ho]
        have hcell : (nodeC ids M v d m)[2]? = some (.bool false) := by
          show some (Value.bool (M.own v d m).isSome) = _
          rw [ho]; rfl
        apply seq_dag hmix h
        case hw =>
          apply Walk.cons
          · exact ok_load_cell_ro rfl rfl rfl (fun h => h) one57 hc
          apply Walk.cons
          · exact ok_pure rfl (by kernel_rfl) (v := .bool false) (fun w => by kernel_rfl)
          apply Walk.cons
          · exact ok_move rfl rfl rfl
          apply Walk.cons
          · exact ok_load_cell_ro rfl rfl rfl (fun h => h) one57 hc
          apply Walk.cons
          · first | exact ok_skip rfl | exact ok_skip_u rfl | exact ok_nil rfl rfl rfl | exact ok_nil_v rfl rfl rfl
          apply Walk.cons
          · first | exact ok_skip rfl | exact ok_skip_u rfl | exact ok_fld rfl rfl rfl fo64_1 rfl | exact ok_fld_v rfl rfl rfl fo64_1 rfl
          apply Walk.cons
          · exact ok_load_cell_ro rfl rfl rfl (fun h => h) one4 ((hnd 2).trans hcell)
          apply Walk.cons
          · first | exact ok_skip rfl | exact ok_skip_u rfl | exact ok_move rfl rfl rfl
          apply Walk.cons
          · first | exact ok_skip rfl | exact ok_skip_u rfl
          apply Walk.cons
          · first | exact ok_skip rfl | exact ok_skip_u rfl | exact ok_load_cell rfl rfl rfl rfl one57 rfl
          apply Walk.cons
          · first | exact ok_skip rfl | exact ok_skip_u rfl | exact ok_nil rfl rfl rfl | exact ok_nil_v rfl rfl rfl
          apply Walk.cons
          · first | exact ok_skip rfl | exact ok_skip_u rfl | exact ok_fld rfl rfl rfl fo64_3 rfl | exact ok_fld_v rfl rfl rfl fo64_3 rfl
          apply Walk.cons
          · first | exact ok_skip rfl | exact ok_skip_u rfl | exact o_load24 rfl rfl rfl rfl | exact o_load24p rfl rfl rfl rfl
          apply Walk.cons
          · first | exact ok_skip rfl | exact ok_skip_u rfl | exact ok_load_cell rfl rfl rfl rfl one57 rfl
          apply Walk.cons
          · first | exact ok_skip rfl | exact ok_skip_u rfl | exact ok_nil rfl rfl rfl | exact ok_nil_v rfl rfl rfl
          apply Walk.cons
          · first | exact ok_skip rfl | exact ok_skip_u rfl | exact ok_fld rfl rfl rfl fo64_4 rfl | exact ok_fld_v rfl rfl rfl fo64_4 rfl
          apply Walk.cons
          · first | exact ok_skip rfl | exact ok_skip_u rfl | exact ok_load_cell rfl rfl rfl rfl one3 rfl
          apply Walk.cons
          · first | exact ok_skip rfl | exact ok_skip_u rfl
          apply Walk.cons
          · first | exact ok_skip rfl | exact ok_skip_u rfl | exact ok_load_cell rfl rfl rfl rfl one57 rfl
          apply Walk.cons
          · first | exact ok_skip rfl | exact ok_skip_u rfl | exact ok_nil rfl rfl rfl | exact ok_nil_v rfl rfl rfl
          apply Walk.cons
          · first | exact ok_skip rfl | exact ok_skip_u rfl | exact ok_fld rfl rfl rfl fo64_2 rfl | exact ok_fld_v rfl rfl rfl fo64_2 rfl
          apply Walk.cons
          · first | exact ok_skip rfl | exact ok_skip_u rfl | exact ok_load_cell rfl rfl rfl rfl one3 rfl
          apply Walk.cons
          · first | exact ok_skip rfl | exact ok_skip_u rfl
          apply Walk.cons
          · first | exact ok_skip rfl | exact ok_skip_u rfl
          apply Walk.cons
          · first | exact ok_skip rfl | exact ok_skip_u rfl | exact ok_not rfl rfl rfl rfl
          apply Walk.cons
          · first | exact ok_skip rfl | exact ok_skip_u rfl | exact ok_pick_true rfl rfl rfl rfl | exact ok_pick_false rfl rfl rfl rfl
          apply Walk.cons
          · first | exact ok_pick_true rfl rfl rfl rfl | exact ok_pick_false rfl rfl rfl rfl
          exact Walk.nil _
        case hck => kernel_rfl
        case hQ =>
          intro ρ A w1 h
          refine if_false' h rfl (wp_skip (Exit.then_normal ?_))
          rw [hK1]
          have hw2 := h.lies
          exact ⟨hf.step hw2, by rw [hown]; exact hJ [] _ _ hj1 (.of_below hw2), _, h.rebase [(1, .v (.pointer (some ⟨q, 0, none⟩))), (2, .v (.pointer (some ⟨y, 0, none⟩)))] ⟨⟨_, rfl, _, rfl, rfl⟩, ⟨_, rfl, _, rfl, rfl⟩, trivial⟩⟩
      | some o =>
        have hown : ownL M v d m = [⟨v, m * 2 ^ (128 - d), d, o⟩] := by rw [ownL, ho]
        have hcell : (nodeC ids M v d m)[2]? = some (.bool true) := by
          show some (Value.bool (M.own v d m).isSome) = _
          rw [ho]; rfl
        have hcell3 : (nodeC ids M v d m)[3]? = some (.int .i64 o) := by
          show some (Value.int .i64 ((M.own v d m).getD 0)) = _
          rw [ho]; rfl
        have hcell21 : (nodeC ids M v d m)[21]? = some (.int .i64 (d : Nat)) := rfl
        have haddr : ∀ k, k < 17 → w1.cell? ⟨b, 4 + k, none⟩ = (adc v (m * 2 ^ (128 - d)))[k]? := fun k hk => (hnd (4 + k)).trans (ndc_adc _ _ _ _ _ _ k hk)
        obtain ⟨x, hx⟩ : ∃ x : RowR, x = ⟨v, m * 2 ^ (128 - d), d, o⟩ := ⟨_, rfl⟩
        have hxs : [] ++ [x] <+: upto (ownL M v d m) L 2 := by
          rw [hown, ← hx]
          exact ⟨L 0 ++ L 1, by simp [upto]⟩
        refine wp_seq ?_
        refine (wpIn_wide (n := 0)).1 ?_
        apply region_pivot (r := none) 23 (esB := fun b => [{ val := .v (.bool !b) }, { val := .v (.bool !b) }, { val := .v (.bool !b) }])
          (fun c w => (c = true ∧ J [x] w ∧ Facts ids M W.heap.size q y (.pointer (some ⟨b, 0, none⟩)) (.func (.yield l) #[] #[]) w []) ∨ (c = false ∧ Jx [x] w)) hmix
        case hrep => exact h
        case hmem => rfl
        case hnd => rfl
        case hno => exact fun ⟨_, _, h⟩ => by obtain ⟨⟨v, hv⟩, _⟩ := h; cases hv
        case hwA =>
          apply Walk.cons
          · exact ok_load_cell_ro rfl rfl rfl (fun h => h) one57 hc
          apply Walk.cons
          · exact ok_pure rfl (by kernel_rfl) (v := .bool false) (fun w => by kernel_rfl)
          apply Walk.cons
          · exact ok_move rfl rfl rfl
          apply Walk.cons
          · exact ok_load_cell_ro rfl rfl rfl (fun h => h) one57 hc
          apply Walk.cons
          · first | exact ok_skip rfl | exact ok_skip_u rfl | exact ok_nil rfl rfl rfl | exact ok_nil_v rfl rfl rfl
          apply Walk.cons
          · first | exact ok_skip rfl | exact ok_skip_u rfl | exact ok_fld rfl rfl rfl fo64_1 rfl | exact ok_fld_v rfl rfl rfl fo64_1 rfl
          apply Walk.cons
          · exact ok_load_cell_ro rfl rfl rfl (fun h => h) one4 ((hnd 2).trans hcell)
          apply Walk.cons
          · first | exact ok_skip rfl | exact ok_skip_u rfl | exact ok_move rfl rfl rfl
          apply Walk.cons
          · exact ok_load_cell_ro rfl rfl rfl (fun h => h) one81 hcy
          apply Walk.cons
          · exact ok_load_cell_ro rfl rfl rfl (fun h => h) one57 hc
          apply Walk.cons
          · first | exact ok_skip rfl | exact ok_skip_u rfl | exact ok_nil rfl rfl rfl | exact ok_nil_v rfl rfl rfl
          apply Walk.cons
          · first | exact ok_skip rfl | exact ok_skip_u rfl | exact ok_fld rfl rfl rfl fo64_3 rfl | exact ok_fld_v rfl rfl rfl fo64_3 rfl
          apply Walk.cons
          · exact ok_load_agg_ro rfl rfl rfl (fun h => h) agg24 sz24 rfl haddr
          apply Walk.cons
          · exact ok_load_cell_ro rfl rfl rfl (fun h => h) one57 hc
          apply Walk.cons
          · first | exact ok_skip rfl | exact ok_skip_u rfl | exact ok_nil rfl rfl rfl | exact ok_nil_v rfl rfl rfl
          apply Walk.cons
          · first | exact ok_skip rfl | exact ok_skip_u rfl | exact ok_fld rfl rfl rfl fo64_4 rfl | exact ok_fld_v rfl rfl rfl fo64_4 rfl
          apply Walk.cons
          · exact ok_load_cell_ro rfl rfl rfl (fun h => h) one3 ((hnd 21).trans hcell21)
          apply Walk.cons
          · exact o_built rfl rfl (by kernel_rfl) (v := .agg (pfc v (m * 2 ^ (128 - d)) (d : Nat))) (fun w => by kernel_rfl)
          apply Walk.cons
          · exact ok_load_cell_ro rfl rfl rfl (fun h => h) one57 hc
          apply Walk.cons
          · first | exact ok_skip rfl | exact ok_skip_u rfl | exact ok_nil rfl rfl rfl | exact ok_nil_v rfl rfl rfl
          apply Walk.cons
          · first | exact ok_skip rfl | exact ok_skip_u rfl | exact ok_fld rfl rfl rfl fo64_2 rfl | exact ok_fld_v rfl rfl rfl fo64_2 rfl
          apply Walk.cons
          · exact ok_load_cell_ro rfl rfl rfl (fun h => h) one3 ((hnd 3).trans hcell3)
          apply Walk.cons
          · exact o_built rfl rfl (by kernel_rfl) (v := .agg (rwc ⟨v, m * 2 ^ (128 - d), d, o⟩)) (fun w => by kernel_rfl)
          exact Walk.nil _
        case hla => rfl
        case hpv => kernel_rfl
        case hy => rfl
        case hwB =>
          intro c w1
          apply Walk.cons
          · exact ok_not rfl rfl rfl rfl
          apply Walk.cons
          · exact ok_pick_true rfl rfl rfl rfl
          apply Walk.cons
          · exact ok_pick_false rfl rfl rfl rfl
          exact Walk.nil _
        case hck => exact fun c => by cases c <;> kernel_rfl
        case hst => exact fun c => by cases c <;> kernel_rfl
        case hcall =>
          intro ρ' a' w' K hr hK
          have hf' := hf.step hr.lies
          refine wpOpIn_yes rfl (want_spec (fun k _ av hk => hr.slots k av hk) rfl) (oper_yield rfl (hr.eval_tmp (t := 14) rfl) (vs := encR x) (map_one (by rw [hr.eval_tmp (t := 28) rfl, hx]; rfl)) (hY [] x w' (hJ [] _ _ hj1 (hr.turned _)) hxs hf'.size) ?_)
          rintro e w'' (⟨rfl, hj2, hk2, hn2⟩ | ⟨rfl, hjx, hn2⟩)
          · exact ⟨true, rfl, hK true w'' (.inl ⟨rfl, hj2, hf'.round hk2 hn2⟩)⟩
          · exact ⟨false, rfl, hK false w'' (.inr ⟨rfl, hjx⟩)⟩
        case hQ =>
          intro c w2 ρ' a' w' hX hr
          refine Exit.then_normal ?_
          rcases hX with ⟨rfl, hj2, hf2⟩ | ⟨rfl, hjx⟩
          · refine if_false' hr rfl (wp_skip (Exit.then_normal ?_))
            rw [hK1]
            exact ⟨hf2.step hr.lies, by rw [hown, ← hx]; exact hJ [x] _ _ hj2 (hr.turned _), _, hr.rebase [(1, .v (.pointer (some ⟨q, 0, none⟩))), (2, .v (.pointer (some ⟨y, 0, none⟩)))] ⟨⟨_, rfl, _, rfl, rfl⟩, ⟨_, rfl, _, rfl, rfl⟩, trivial⟩⟩
          · refine if_true' hr rfl (wp_ret ?_)
            repeat (first | refine Exit.thenRet ?_ | refine Exit.blockRet ?_)
            refine ret_marks (B := W.heap.size) [] _ hr.defers (fun D hD => by cases hD) List.nodup_nil fun w3 ht => ?_
            exact ⟨_, by simp [results, Try.results34]; rfl, ⟨_, rfl⟩, .inr ⟨[x], hxs, hJx [x] _ _ (hJx [x] _ _ hjx (hr.turned _)) ht⟩⟩
    · intro A1 w2 hKK
      rw [hK1] at hKK
      clear hK1 K1 hf hj1 hc hcy hnd h
      obtain ⟨hf, hj, ρ, h⟩ := hKK
      have hc : w2.cell? ⟨q, 0, none⟩ = some (.pointer (some ⟨b, 0, none⟩)) := by rw [cell_of_obj (show hp w2 q = _ from hf.cq)]; rfl
      have hkids : ∀ k, k < 2 → w2.cell? ⟨b, 0 + k, none⟩ = (#[ptrOf (ids v (d + 1) (2 * m)), ptrOf (ids v (d + 1) (2 * m + 1))] : Array Value)[k]? := fun k hk => by
        rw [cell_of_obj (show hp w2 b = _ from hf.nodes _ _ _ _ hb)]
        obtain rfl | rfl : k = 0 ∨ k = 1 := by omega
        · rfl
        · rfl
      apply seq_dag hmix h
      case hw =>
        apply Walk.cons
        · exact ok_load_cell_ro rfl rfl rfl (fun h => h) one57 hc
        apply Walk.cons
        · first | exact ok_nil rfl rfl rfl | exact ok_nil_v rfl rfl rfl
        apply Walk.cons
        · first | exact ok_fld rfl rfl rfl fo64_0 rfl | exact ok_fld_v rfl rfl rfl fo64_0 rfl
        apply Walk.cons
        · exact ok_load_agg_ro rfl rfl rfl (fun h => h) agg58 sz58 rfl hkids
        apply Walk.cons
        · exact ok_move rfl rfl rfl
        exact Walk.nil _
      case hck => kernel_rfl
      case hQ =>
        intro ρ A w1 h
        have hf := hf.step h.lies
        have hj := hJ _ _ _ hj (h.turned _)
        have h := h.rebase [(1, .v (.pointer (some ⟨q, 0, none⟩))), (2, .v (.pointer (some ⟨y, 0, none⟩))), (36, .v (.agg #[ptrOf (ids v (d + 1) (2 * m)), ptrOf (ids v (d + 1) (2 * m + 1))])), (37, .v (.int .i64 (0 : Nat)))] ⟨⟨_, rfl, _, rfl, rfl⟩, ⟨_, rfl, _, rfl, rfl⟩, ⟨_, rfl, _, rfl, rfl⟩, ⟨_, rfl, _, rfl, rfl⟩, trivial⟩
        refine wp_block ?_
        refine wp_loop_ghost (fun m' a w => ∃ i ρ Ds, i + m' = 2 ∧ Facts ids M W.heap.size q y (.pointer (some ⟨b, 0, none⟩)) (.func (.yield l) #[] #[]) w Ds ∧ J (upto (ownL M v d m) L i) w ∧
          Rep 48 ⟨[(1, .v (.pointer (some ⟨q, 0, none⟩))), (2, .v (.pointer (some ⟨y, 0, none⟩))), (36, .v (.agg #[ptrOf (ids v (d + 1) (2 * m)), ptrOf (ids v (d + 1) (2 * m + 1))])), (37, .v (.int .i64 (i : Nat)))], []⟩ ρ { W := w, D := Ds.map markD } a w) 2 ⟨0, _, [], rfl, hf, hj, h⟩ ?_
        clear h hf hj hc hkids
        rintro m' A2 w3 ⟨i, ρ, Ds, him, hf, hj, h⟩
        refine wp_seq ?_
        by_cases hi : i < 2
        · obtain ⟨p, hpp⟩ := ptrOf_ptr (ids v (d + 1) (2 * m + i))
          have hki := kids_get ids v d m i hi
          rw [hpp] at hki
          apply region_dag hmix h
          case hw =>
            apply Walk.cons
            · exact o_bin rfl rfl rfl rfl (r_lss (b := 2) (decide_eq_true hi))
            exact Walk.nil _
          case hck => kernel_rfl
          case hQ =>
            intro ρ A w1 h
            refine Exit.then_normal ?_
            refine wp_seq ?_
            refine if_true' h rfl (wp_skip (Exit.then_normal ?_))
            refine wp_seq (wp_block ?_)
            apply seq_dag hmix h
            case hw =>
              apply Walk.cons
              · exact o_index58 rfl rfl rfl rfl hki
              apply Walk.cons
              · exact ok_assign rfl rfl rfl
              exact Walk.nil _
            case hck => kernel_rfl
            case hQ =>
              intro ρ A w1 h
              apply seq_dag hmix h
              case hw =>
                apply Walk.cons
                · exact ok_move rfl rfl rfl
                apply Walk.cons
                · exact o_rows 41 rfl rfl rfl
                exact Walk.nil _
              case hck => kernel_rfl
              case hQ =>
                intro ρ A w1 h
                have hcl := (h.mem 41 _ rfl).1
                have hf := hf.step h.lies
                have hj := hJ _ _ _ hj (h.turned _)
                obtain ⟨q', hq'⟩ : ∃ q', ρ.num 41 = q' := ⟨_, rfl⟩
                have hcl : w1.heap[q']? = some (cobj #[ptrOf (ids v (d + 1) (2 * m + i))] 57) := by rw [← hq', hpp]; exact hcl
                have h := h.rebase [(1, .v (.pointer (some ⟨q, 0, none⟩))), (2, .v (.pointer (some ⟨y, 0, none⟩))), (36, .v (.agg #[ptrOf (ids v (d + 1) (2 * m)), ptrOf (ids v (d + 1) (2 * m + 1))])), (37, .v (.int .i64 (i : Nat))), (41, .v (.func (.func 34) #[] #[.pointer (some ⟨q', 0, none⟩)]))] ⟨⟨_, rfl, _, rfl, rfl⟩, ⟨_, rfl, _, rfl, rfl⟩, ⟨_, rfl, _, rfl, rfl⟩, ⟨_, rfl, _, rfl, rfl⟩, ⟨_, rfl, _, rfl, by rw [← hq']; rfl⟩, trivial⟩
                have hde := h.defers
                refine wp_block ?_
                have hdl : ∀ D ∈ Ds, D < w1.heap.size := fun D hD => lt_of_heap (hf.marks D hD).2
                refine wp_rangeR (h.eval_tmp (t := 41) rfl) fn34 (hL i hi w1 q' hcl hf.nodes) (Kept.refl _ _) (fun x => rfl)
                  (fun pre W' => J (upto (ownL M v d m) L i ++ pre) W' ∧ Facts ids M W.heap.size q y (.pointer (some ⟨b, 0, none⟩)) (.func (.yield l) #[] #[]) W' Ds)
                  (fun c pre W' => c = .ret ∧ Jx (upto (ownL M v d m) L i ++ pre) W' ∧ ∀ D ∈ Ds, W.heap.size ≤ D ∧ W'.heap[D]? = some (.deferred (some [])))
                  (fun s => ((hJ _).mono hf.size).and hf.abide) (fun c s A B hA ht => ⟨hA.1, (hJx _).mono hf.size _ _ hA.2.1 ht, fun D hD => ⟨(hA.2.2 D hD).1, ht.same _ _ (hA.2.2 D hD).2 (.inl (hdl D hD))⟩⟩)
                  ⟨by simpa using hj, hf⟩
                  (fun x a' W' => ∃ r5, a'.tmps.size = 48 ∧ a'.defers = [] ∧ a'.tmps[2]? = some (.pointer (some ⟨y, 0, none⟩)) ∧ a'.tmps[5]? = some (.pointer (some ⟨r5, 0, none⟩)) ∧ W'.heap[r5]? = some (cobj (rwc x) 73))
                  (fun x a' A B ⟨r5, h1, h2, h3, h4, h5⟩ ht => ⟨r5, h1, h2, h3, h4, ht.same _ _ h5 (.inr rfl)⟩) ?hassign ?hbody ?hdone ?hstop
                case hassign =>
                  intro l' pre x W' K ⟨hj', hf'⟩ hpx hsz hK
                  have hy2 := h.slots 2 _ rfl
                  have hr := Rep.of_act (N := 48) (a := { tmps := yTmps A #[42] (encR x), defers := [] }) W' (by simp [yTmps, encR, h.size]) [(2, .v (.pointer (some ⟨y, 0, none⟩))), (42, .v (.agg (rwc x)))] ⟨⟨_, rfl, by simpa [yTmps, encR] using hy2⟩, ⟨_, rfl, by simp [yTmps, encR, h.size]⟩, trivial⟩
                  apply region_round hmix no_outgrown hr
                  case hnd => rfl
                  case hw =>
                    apply Walk.cons
                    · exact ok_alloc 5 rfl rfl zero73 (cs := rwc ⟨false, 0, 0, 0⟩) rfl
                    apply Walk.cons
                    · exact ok_store_whole rfl rfl rfl rfl rfl sz73 rfl (one_rwc x) rfl
                    exact Walk.nil _
                  case hck => kernel_rfl
                  case hQ =>
                    intro ρ' a' w' _ hr
                    refine Exit.then_normal ?_
                    exact hK a' w' (NK.of_below hr.lies) ((hr.turned 0).kept _) ⟨hJ _ _ _ hj' (hr.turned _), hf'.step hr.lies⟩ ⟨ρ'.num 5, hr.size, hr.defers, hr.slots 2 _ rfl, hr.slots 5 _ rfl, (hr.mem 5 _ rfl).1⟩
                case hbody =>
                  intro l' pre x a' W' ⟨hj', hf'⟩ ⟨r5, hsz, hdf, h2, h5, h73⟩ hpx hsz'
                  have hcy : W'.cell? ⟨y, 0, none⟩ = some (.func (.yield l) #[] #[]) := by rw [cell_of_obj (show hp W' y = _ from hf'.cy)]; rfl
                  have hcr : ∀ k, k < 19 → W'.cell? ⟨r5, 0 + k, none⟩ = (rwc x)[k]? := fun k hk => by rw [cell_of_obj (show hp W' r5 = _ from h73), Nat.zero_add]
                  have hr := Rep.of_act (N := 48) (a := a') W' hsz [(2, .v (.pointer (some ⟨y, 0, none⟩))), (5, .v (.pointer (some ⟨r5, 0, none⟩)))] ⟨⟨_, rfl, h2⟩, ⟨_, rfl, h5⟩, trivial⟩
                  refine wpIn_block (wpIn_seq (wpIn_region_lit ?_))
                  refine wplI_step hr rfl (ok_load_cell_ro rfl rfl rfl (fun h => h) one81 hcy) rfl rfl rfl rfl ?_
                  intro ρ a5 w5 hr
                  refine wplI_step hr rfl (ok_load_agg_ro rfl rfl rfl (fun h => h) agg73 sz73 rfl hcr) rfl rfl rfl rfl ?_
                  intro ρ a5 w5 hr
                  have hf5 := hf'.step hr.lies
                  have hj5 := hJ _ _ _ hj' (hr.turned _)
                  have hnk5 := NK.of_below (B := w1.heap.size) hr.lies
                  have hkp5 := (hr.turned 0).kept kt34
                  have hr := hr.rebase [(43, .v (.func (.yield l) #[] #[])), (44, .v (.agg (rwc x)))] ⟨⟨_, rfl, _, rfl, rfl⟩, ⟨_, rfl, _, rfl, rfl⟩, trivial⟩
                  refine wpListIn_yes (want_spec (fun k _ av hk => hr.slots k av hk) rfl) (oper_yield rfl (hr.eval_tmp (t := 43) rfl) (vs := encR x) (map_one (by rw [hr.eval_tmp (t := 44) rfl]; rfl)) (hY (upto (ownL M v d m) L i ++ pre) x w5 hj5 (by rw [List.append_assoc]; exact upto_pre hi hpx) hf5.size) ?_)
                  rintro e w6 (⟨rfl, hj6, hk6, hn6⟩ | ⟨rfl, hjx6, hn6⟩)
                  · refine ⟨true, rfl, ?_⟩
                    have hr6 := hr.yielded (d := 45) (by decide) true w6
                    refine wplI_step hr6 rfl (ok_not rfl rfl rfl rfl) rfl rfl rfl rfl ?_
                    intro ρ a7 w7 hr7
                    refine wpListIn_nil ?_
                    refine Exit.then_normal ?_
                    refine wpIn_cond_false (hr7.eval_tmp (t := 46) rfl) (wpIn_skip ?_)
                    refine ⟨hnk5.trans ((hn6.mono hf.size).trans (NK.of_below hr7.lies)), hkp5.trans (hk6.trans ((hr7.turned 0).kept _)), ?_, (hf5.round hk6 hn6).step hr7.lies⟩
                    rw [← List.append_assoc]
                    exact hJ _ _ _ hj6 (hr7.turned _)
                  · refine ⟨false, rfl, ?_⟩
                    have hr6 := hr.yielded (d := 45) (by decide) false w6
                    refine wplI_step hr6 rfl (ok_not rfl rfl rfl rfl) rfl rfl rfl rfl ?_
                    intro ρ a7 w7 hr7
                    refine wpListIn_nil ?_
                    refine Exit.then_normal ?_
                    refine wpIn_cond_true (hr7.eval_tmp (t := 46) rfl) (wpIn_ret ?_)
                    refine ⟨hnk5.trans ((hn6.mono hf.size).trans (NK.of_below hr7.lies)), rfl, ?_, fun D hD => ⟨(hf5.marks D hD).1, ?_⟩⟩
                    · rw [← List.append_assoc]
                      exact hJx _ _ _ hjx6 (hr7.turned _)
                    · have h1 := hn6.same _ _ (hf5.marks D hD).1 (hf5.marks D hD).2 rfl
                      rw [hr7.lies.block D (lt_of_heap h1)]
                      exact h1
                case hdone =>
                  intro D W' hD ⟨hj', hf'⟩ hDm
                  repeat (first | refine Exit.block_normal ?_ | refine Exit.then_normal ?_)
                  have hnD : D ∉ Ds := fun t => by have := hdl D t; omega
                  have hf' := hf'.mark (Nat.le_trans hf.size hD) hDm hnD
                  have h := Rep.of_actD (N := 48) (a := { A with defers := markD D :: A.defers }) (D := (D :: Ds).map markD) W' (by rw [hde]; rfl) h.size [(1, .v (.pointer (some ⟨q, 0, none⟩))), (2, .v (.pointer (some ⟨y, 0, none⟩))), (36, .v (.agg #[ptrOf (ids v (d + 1) (2 * m)), ptrOf (ids v (d + 1) (2 * m + 1))])), (37, .v (.int .i64 (i : Nat)))] ⟨⟨_, rfl, h.slots 1 _ rfl⟩, ⟨_, rfl, h.slots 2 _ rfl⟩, ⟨_, rfl, h.slots 36 _ rfl⟩, ⟨_, rfl, h.slots 37 _ rfl⟩, trivial⟩
                  apply region_dag hmix h
                  case hw =>
                    apply Walk.cons
                    · exact o_bin rfl rfl rfl rfl (r_addi (b := 1) (by omega))
                    apply Walk.cons
                    · exact ok_move rfl rfl rfl
                    exact Walk.nil _
                  case hck => kernel_rfl
                  case hQ =>
                    intro ρ A w1 h
                    refine ⟨m' - 1, by omega, i + 1, _, D :: Ds, by omega, hf'.step h.lies, hJ _ _ _ hj' (h.turned _), h.rebase _ ⟨⟨_, rfl, _, rfl, rfl⟩, ⟨_, rfl, _, rfl, rfl⟩, ⟨_, rfl, _, rfl, rfl⟩, ⟨_, rfl, _, rfl, rfl⟩, trivial⟩⟩
                case hstop =>
                  intro D c pre W' hD hpre ⟨hc, hjx, hm⟩ hDm
                  subst hc
                  refine wp_ret ?_
                  repeat (first | refine Exit.thenRet ?_ | refine Exit.blockRet ?_)
                  refine ret_marks (B := W.heap.size) (D :: Ds) _ (by rw [hde]; rfl) (fun D' hD' => ?_) (List.nodup_cons.2 ⟨fun t => by have := hdl D t; omega, hf.nodup⟩) fun w3 ht => ?_
                  · rcases List.mem_cons.1 hD' with rfl | hD'
                    · exact ⟨Nat.le_trans hf.size hD, hDm⟩
                    · exact hm D' hD'
                  · exact ⟨_, by simp [results, Try.results34]; rfl, ⟨_, rfl⟩, .inr ⟨_, upto_pre hi hpre, hJx _ _ _ hjx ht⟩⟩
        · obtain rfl : i = 2 := by omega
          apply region_dag hmix h
          case hw =>
            apply Walk.cons
            · exact o_bin rfl rfl rfl rfl (r_lss (b := 2) (decide_eq_false hi))
            exact Walk.nil _
          case hck => kernel_rfl
          case hQ =>
            intro ρ A w1 h
            refine Exit.then_normal ?_
            refine wp_seq ?_
            refine if_false' h rfl (wp_exit ?_)
            repeat (first | refine Exit.thenExit ?_ | refine Exit.blockExitNe (by decide) ?_)
            refine Exit.blockExit ?_
            refine ret_marks (B := W.heap.size) Ds _ h.defers (hf.step h.lies).marks hf.nodup fun w3 ht => ?_
            exact ⟨_, by simp [results, Try.results34]; rfl, ⟨_, rfl⟩, .inl (hJ _ _ _ (hJ _ _ _ hj (h.turned _)) ht)⟩
/-- THE ROWS BELOW A NODE. -/
theorem pre34 {ids : Ids} {M : Tab} (hdeep : ∀ v d m, ids v d m ≠ none → d ≤ 128) (v : Bool) : ∀ (f d m : Nat), 129 ≤ d + f → ∀ w0 q, w0.heap[q]? = some (cobj #[ptrOf (ids v d m)] 57) → NodesIn ids M w0 →
    Iter Try.prog 34 #[.pointer (some ⟨q, 0, none⟩)] encR kt34 (below ids M v f d m) w0 := by
  intro f
  induction f with
  | zero =>
    intro d m hd w0 q hq _
    cases hi : ids v d m with
    | none =>
      rw [hi] at hq
      exact nil34 w0 q hq
    | some b =>
      have := hdeep v d m (by rw [hi]; exact fun h => by cases h)
      omega
  | succ f ih =>
    intro d m hd w0 q hq hn
    cases hi : ids v d m with
    | none =>
      rw [hi] at hq
      have : below ids M v (f + 1) d m = [] := by simp [below, hi]
      rw [this]
      exact nil34 w0 q hq
    | some b =>
      rw [hi] at hq
      have : below ids M v (f + 1) d m = upto (ownL M v d m) (fun i => below ids M v f (d + 1) (2 * m + i)) 2 := by simp [below, hi, upto]
      rw [this]
      exact some34 hi _ (fun i _ w0 q hq hn => ih (d + 1) (2 * m + i) (by omega) w0 q hq hn) w0 q hq hn
end Go.Proofs.Ytnppgaohfegloaa
