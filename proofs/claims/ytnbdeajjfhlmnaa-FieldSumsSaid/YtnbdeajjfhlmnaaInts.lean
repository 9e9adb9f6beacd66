/-
  Slices of whole numbers in memory of the walk's own: made, read, written, lengthened, copied.
-/
import Derived.Test.YtnbdeajjfhlmnaaSlices
namespace Go.Proofs.Ytnbdeajjfhlmnaa
open Go.RowKit

/-- cells of whole numbers -/
def icv (f : Nat → Nat) (n : Nat) : Array Value := ((List.range n).map fun j => Value.int .i64 (f j)).toArray
@[simp] theorem size_icv (f : Nat → Nat) (n : Nat) : (icv f n).size = n := by simp [icv]
theorem icv_get (f : Nat → Nat) (n j : Nat) (h : j < n) : (icv f n)[j]? = some (.int .i64 (f j)) := by simp [icv, h]
def updF (f : Nat → Nat) (k v : Nat) : Nat → Nat := fun j => if j = k then v else f j
theorem icv_set (f : Nat → Nat) (n k v : Nat) : (icv f n).setIfInBounds k (.int .i64 v) = icv (updF f k v) n := by
  apply Array.ext_getElem?
  intro j
  rw [Array.getElem?_setIfInBounds]
  by_cases hj : j < n
  · rw [icv_get _ n j hj, icv_get _ n j hj]
    by_cases h : k = j
    · subst h; simp [updF, hj]
    · simp [updF, h, Ne.symm h]
  · have e1 : (icv f n)[j]? = none := by simp [icv, hj]
    have e2 : (icv (updF f k v) n)[j]? = none := by simp [icv, hj]
    rw [e1, e2]
    by_cases h : k = j
    · subst h; simp [hj]
    · simp [h]
theorem icv_congr {f g : Nat → Nat} {n : Nat} (h : ∀ j, j < n → f j = g j) : icv f n = icv g n := by
  apply Array.ext_getElem?
  intro j
  by_cases hj : j < n
  · rw [icv_get _ n j hj, icv_get _ n j hj, h j hj]
  · have e1 : (icv f n)[j]? = none := by simp [icv, hj]
    have e2 : (icv g n)[j]? = none := by simp [icv, hj]
    rw [e1, e2]
theorem one_icv (f : Nat → Nat) (n : Nat) : (icv f n).all (·.oneCell') = true := by
  rw [Array.all_eq_true_iff_forall_mem]
  intro x hx
  simp only [icv, List.mem_toArray, List.mem_map] at hx
  obtain ⟨i, _, rfl⟩ := hx
  rfl

theorem u46 : Try.prog.underlying 46 = some (.slice 3) := by kernel_rfl
theorem zero3 : tZero Try.prog 3 = some (.int .i64 0) := by kernel_rfl
theorem bytes3 : (Try.prog.info? 3).map (·.bytes) = some 8 := by kernel_rfl
theorem info3 : ∃ ie, Try.prog.info? 3 = some ie ∧ ie.size = 1 ∧ ie.zero = some (.int .i64 0) ∧ ie.bytes = 8 := by
  have h1 := zero3
  have h2 := sz3
  have h3 := bytes3
  unfold tZero at h1
  unfold tSize at h2
  cases hi : Try.prog.info? 3 with
  | none => simp [hi] at h2
  | some ie =>
    simp only [hi, Option.map_some, Option.some.injEq, Option.bind_some] at h1 h2 h3
    exact ⟨ie, rfl, h2, h1, h3⟩

section
variable {F : Fr} {ops : Array Oper} {S : St} {o : Oper}
theorem o_make (i : Nat) (hw : want ops S o = some true) {x y : Operand} (ho : o.op = .makeSlice 46 x y) {l c : Nat} (hx : S.av x = some (.v (.int .i64 l))) (hy : S.av y = some (.v (.int .i64 c))) (hlc : l ≤ c) (hc : c ≤ 65536) (hpos : 0 < c) :
    OpOK Try.prog F ops o S { val := .s i 0 l c, new := some (i, ⟨icv (fun _ => 0) c, 3⟩) } := by
  refine .of hw fun ρ a w Q K h1 _ _ h4 => ?_
  have e1 := h1 x (by simp [ho, Op.operands]) _ hx
  have e2 := h1 y (by simp [ho, Op.operands]) _ hy
  obtain ⟨ie, hi, hs, hz, hb⟩ := info3
  have hl : IntKind.i64.wrap (l : Int) = l := by rw [IntKind.wrap_i64]; omega
  have hcc : IntKind.i64.wrap (c : Int) = c := by rw [IntKind.wrap_i64]; omega
  have hcells : (Array.range c).map (fun x => ([Value.int .i64 0][x % 1]?).getD default) = icv (fun _ => 0) c := by
    apply Array.ext_getElem?
    intro j
    by_cases hj : j < c
    · rw [icv_get _ _ _ hj]; simp [hj, Nat.mod_one]
    · simp [icv, hj]
  have n1 : ¬ ((c : Int) < 0 ∨ 281474976710656 < (8 : Int) * c) := by omega
  have n2 : ¬ ((l : Int) < 0) := by omega
  have n3 : ¬ (c < l) := by omega
  have hr : (execOp a.eval o).run Try.prog w = .ok (.value (.slice (some ⟨w.heap.size, 0, none⟩) l c)) (w.alloc (Blk.obj ⟨icv (fun _ => 0) c, 3⟩)) := by
    have hc0 : c ≠ 0 := by omega
    simp [execOp, ho, e1, e2, Instr.makeSlice, run_underlying u46, asInt, asIntOf, typeInfo, hi, hb, hs, hz, hl, hcc, n1, n2, n3, askRoom, roomBytes, sizeOf, zeroValue, newRow, Blk.obj, hc0, Value.cells, hcells]
  unfold Oper.wp
  rw [hr, Oper.upon_value]
  exact h4 _ _ w.heap.size (Out.alloc rfl rfl (by simp [AV.s, AV.to, upd]))
theorem fill_one (x : Nat) : Instr.fill (fun i => some (i * 1, 1)) ((Array.range (1 * 1)).map ((Value.int .i64 0).cells[· % (Value.int .i64 0).cells.size]!)) [(0, .int .i64 x)] = some (icv (fun _ => x) 1) := by kernel_rfl
theorem run_lit46 (x : Nat) (w : World) : (Instr.buildSlice 46 1 #[(0, .int .i64 x)]).run Try.prog w = .ok (.slice (some ⟨w.heap.size, 0, none⟩) 1 1) (w.alloc (Blk.obj ⟨icv (fun _ => x) 1, 3⟩)) := by
  obtain ⟨ie, hi, hs, hz, _⟩ := info3
  exact run_buildSlice w 46 3 1 _ (icv (fun _ => x) 1) ie (.int .i64 0) u46 hi hz (by rw [hs]; decide) (by rw [hs]; decide) (by rw [hs]; exact fill_one x)
theorem o_lit46 (i : Nat) (hw : want ops S o = some true) {y : Operand} (ho : o.op = .buildSlice 46 1 #[(0, y)]) {x : Nat} (hy : S.av y = some (.v (.int .i64 x))) :
    OpOK Try.prog F ops o S { val := .s i 0 1 1, new := some (i, ⟨icv (fun _ => x) 1, 3⟩) } := by
  refine .of hw fun ρ a w Q K h1 _ _ h4 => ?_
  have e1 := h1 y (by simp [ho, Op.operands]) _ hy
  have hr : (execOp a.eval o).run Try.prog w = .ok (.value (.slice (some ⟨w.heap.size, 0, none⟩) 1 1)) (w.alloc (Blk.obj ⟨icv (fun _ => x) 1, 3⟩)) := by
    simp only [execOp, ho, List.map_toArray, List.map_cons, List.map_nil, e1, AV.to_v]
    rw [Sem.run_bind, run_lit46]
    rfl
  unfold Oper.wp
  rw [hr, Oper.upon_value]
  exact h4 _ _ w.heap.size (Out.alloc rfl rfl (by simp [AV.s, AV.to, upd]))

theorem o_at46 (hw : want ops S o = some true) {x ix : Operand} (ho : o.op = .indexAddr 46 x ix) {i off len cap : Nat} {k : IntKind} {j : Nat} (hx : S.av x = some (.s i off len cap)) (hi : S.av ix = some (.v (.int k j))) (hj : j < len) :
    OpOK Try.prog F ops o S { val := .p i (off + j) } := by
  have := ok_index_slice (P := Try.prog) (F := F) hw ho hx hi u46 sz3 hj
  simpa using this
theorem o_at46z (hw : want ops S o = some true) {x ix : Operand} (ho : o.op = .indexAddr 46 x ix) {i len cap : Nat} {k : IntKind} {j : Nat} (hx : S.av x = some (.s i 0 len cap)) (hi : S.av ix = some (.v (.int k j))) (hj : j < len) :
    OpOK Try.prog F ops o S { val := .p i j } := by
  have := o_at46 (F := F) hw ho hx hi hj
  rwa [Nat.zero_add] at this
theorem o_at46ro (hw : want ops S o = some true) {x ix : Operand} (ho : o.op = .indexAddr 46 x ix) {g off len cap : Nat} {k : IntKind} {j : Nat} (hx : S.av x = some (.v (.slice (some ⟨g, off, none⟩) len cap))) (hi : S.av ix = some (.v (.int k j))) (hj : j < len) :
    OpOK Try.prog F ops o S { val := .v (.pointer (some ⟨g, off + j, none⟩)) } := by
  have := ok_index_slice_ro (P := Try.prog) (F := F) hw ho hx hi u46 sz3 hj
  simpa using this
theorem o_load3 (hw : want ops S o = some true) {x : Operand} (ho : o.op = .load 3 x) {i j n t : Nat} {f : Nat → Nat} (hx : S.av x = some (.p i j)) (hb : S.blk i = some ⟨icv f n, t⟩) (hj : j < n) :
    OpOK Try.prog F ops o S { val := .v (.int .i64 (f j)), rd := [i] } := ok_load_cell hw ho hx hb one3 (icv_get f n j hj)
theorem o_load3ro (hw : want ops S o = some true) {x : Operand} (ho : o.op = .load 3 x) {p : Addr} {v : Value} (hx : S.av x = some (.v (.pointer (some p)))) (hM : ¬ F.M p.block) (hc : F.W.cell? p = some v) :
    OpOK Try.prog F ops o S { val := .v v } := ok_load_cell_ro hw ho hx hM one3 hc
theorem o_store3 (hw : want ops S o = some true) {x y : Operand} (ho : o.op = .store 3 x y) {i j n t v : Nat} {f : Nat → Nat} (hx : S.av x = some (.p i j)) (hy : S.av y = some (.v (.int .i64 v))) (hb : S.blk i = some ⟨icv f n, t⟩) (hj : j < n) :
    OpOK Try.prog F ops o S { val := .v undef, wr := some (i, ⟨icv (updF f j v) n, t⟩), rd := [i] } := by
  rw [← icv_set]
  exact ok_store_cell hw ho hx hy hb sz3 rfl (by simpa using hj)
theorem o_len46 (hw : want ops S o = some true) {x : Operand} {t : TypeId} (ho : o.op = .call { callee := .builtin .len, args := #[x], argTypes := #[t] }) {i off len cap : Nat} (hx : S.av x = some (.s i off len cap)) (ht : t = 46) :
    OpOK Try.prog F ops o S { val := .v (.int .i64 len) } := by subst ht; exact ok_len hw ho hx u46
theorem o_len46ro (hw : want ops S o = some true) {x : Operand} {t : TypeId} (ho : o.op = .call { callee := .builtin .len, args := #[x], argTypes := #[t] }) {ad : Option Addr} {len cap : Nat} (hx : S.av x = some (.v (.slice ad len cap))) (ht : t = 46) :
    OpOK Try.prog F ops o S { val := .v (.int .i64 len) } := by subst ht; exact ok_len_ro hw ho hx u46
/-- the first n -/
theorem o_head46 (hw : want ops S o = some true) {x y : Operand} (ho : o.op = .slice 46 x none (some y) none) {i len cap n : Nat} (hx : S.av x = some (.s i 0 len cap)) (hy : S.av y = some (.v (.int .i64 n))) (hn : n ≤ cap) :
    OpOK Try.prog F ops o S { val := .s i 0 n cap } :=
  ok_value hw fun ρ a w h2 _ _ => by
    have e1 : a.eval x = .slice (some ⟨ρ i, 0, none⟩) len cap := h2 x (by simp [ho, Op.operands]) _ hx
    have e2 : a.eval y = .int .i64 n := h2 y (by simp [ho, Op.operands]) _ hy
    show (execOp a.eval o).run Try.prog w = .ok (.value (.slice (some ⟨ρ i, 0, none⟩) n cap)) w
    have hb : (0 : Int) ≤ n ∧ (n : Int) ≤ cap := by omega
    by_cases hc : cap = 0
    · subst hc
      obtain rfl : n = 0 := by omega
      simp [execOp, ho, e1, e2, Instr.sliceAt, Instr.slice, Instr.sliceBounds, Instr.sliceBound, run_underlying u46, asIntOf, run_sizeOf' sz3]
    · simp [execOp, ho, e1, e2, Instr.sliceAt, Instr.slice, Instr.sliceBounds, Instr.sliceBound, run_underlying u46, asIntOf, run_sizeOf' sz3, hn, hc, add_none]
theorem load_list {w : World} {g n t : Nat} {f : Nat → Nat} {m : Nat} (hb : w.heap[g]? = some (Blk.obj ⟨icv f n, t⟩)) (hm : m ≤ n) : (loadCells ⟨g, 0, none⟩ m).run Try.prog w = .ok (icv f m) w := by
  have hl := run_loadCells_list (P := Try.prog) w ⟨g, 0, none⟩ (icv f m).toList (fun j v hv => by
    have hlt : j < m := by have := (List.getElem?_eq_some_iff.1 hv).1; simpa using this
    rw [add_none, cell_of_obj hb, Nat.zero_add, icv_get f n j (by omega)]
    rw [Array.getElem?_toList, icv_get f m j hlt] at hv
    exact hv)
  simpa using hl
theorem drop_icv (f : Nat → Nat) (n len : Nat) (vs : List Value) (k : Nat) (hk : vs.length = k) (hlen : len + k ≤ n) (g : Nat → Nat) (hg : ∀ j, j < n → (if len ≤ j ∧ j < len + k then vs[j - len]? else some (.int .i64 (f j))) = some (.int .i64 (g j))) :
    ((icv f n).toList.take len ++ vs ++ (icv f n).toList.drop (len + k)).toArray = icv g n := by
  apply Array.ext_getElem?
  intro j
  simp only [List.getElem?_toArray]
  have hL : ((icv f n).toList.take len).length = len := by simp; omega
  by_cases hj : j < n
  · rw [icv_get g n j hj, ← hg j hj, List.append_assoc]
    by_cases h1 : j < len
    · rw [List.getElem?_append_left (by omega), if_neg (by omega), List.getElem?_take, if_pos h1, Array.getElem?_toList, icv_get f n j hj]
    · rw [List.getElem?_append_right (by omega), hL]
      by_cases h2 : j < len + k
      · rw [if_pos (by omega), List.getElem?_append_left (by omega)]
      · rw [if_neg (by omega), List.getElem?_append_right (by omega), List.getElem?_drop, hk, show len + k + (j - len - k) = j by omega, Array.getElem?_toList, icv_get f n j hj]
  · have e2 : (icv g n)[j]? = none := by simp [icv, hj]
    rw [e2, List.getElem?_eq_none]
    simp
    omega
/-- one element more, where there is room -/
theorem o_app46 (hw : want ops S o = some true) {x y : Operand} {ts : Array TypeId} (ho : o.op = .call { callee := .builtin .append, args := #[x, y], argTypes := ts }) (hts : ts = #[46, 46]) {i j len cap t c u : Nat} {f : Nat → Nat}
    (hx : S.av x = some (.s i 0 len cap)) (hy : S.av y = some (.s j 0 1 1)) (hi : S.blk i = some ⟨icv f cap, t⟩) (hj : S.blk j = some ⟨icv (fun _ => c) 1, u⟩) (hroom : len < cap) :
    OpOK Try.prog F ops o S { val := .s i 0 (len + 1) cap, wr := some (i, ⟨icv (updF f len c) cap, t⟩), rd := [i, j] } := by
  subst hts
  refine .of hw fun ρ a w Q K h1 h2 _ h4 => ?_
  have e1 : a.eval x = .slice (some ⟨ρ i, 0, none⟩) len cap := h1 x (by simp [ho, Op.operands, Call.operands]) _ hx
  have e2 : a.eval y = .slice (some ⟨ρ j, 0, none⟩) 1 1 := h1 y (by simp [ho, Op.operands, Call.operands]) _ hy
  have e3 := h2 i (by simp) _ hi
  have e4 := h2 j (by simp) _ hj
  have hl := load_list (m := 1) e4 (Nat.le_refl _)
  have hst := run_storeCells_at (P := Try.prog) (ρ i) len t [.int .i64 c] 0 (icv f cap) w e3 (by simp; omega) (fun v hv => by simp at hv; subst hv; rfl)
  have hcs := drop_icv f cap len [.int .i64 c] 1 rfl (by omega) (updF f len c) (fun k hk => by
    by_cases h : k = len
    · subst h; simp [updF]
    · rw [if_neg (by omega)]; simp [updF, h])
  simp only [Nat.add_zero, List.length_cons, List.length_nil, Nat.zero_add, hcs] at hst
  have hic : (icv (fun _ => c) 1).toList = [.int .i64 c] := by simp [icv]
  have hr : (execOp a.eval o).run Try.prog w = .ok (.value (.slice (some ⟨ρ i, 0, none⟩) (len + 1) cap)) (w.setRow (ρ i) (icv (updF f len c) cap)) := by
    simp [execOp, ho, resolve, invoke, builtin, e1, e2, Builtin.append_, run_underlying u46, run_sizeOf' sz3, Builtin.lenOf, Nat.succ_le_of_lt hroom, Builtin.firstCells, hl, hic, add_none, hst]
  unfold Oper.wp
  rw [hr, Oper.upon_value]
  exact h4 _ _ 0 ⟨rfl, rfl, rfl, rfl, by simp, fun k _ hk => setRow_other w _ k _ (hk _ rfl), fun z hz => by cases hz; exact setRow_heap w _ _ _ _ _ e3, fun z hz => by cases hz⟩
/-- copy: n cells from one block into another -/
theorem o_copy46 (hw : want ops S o = some true) {x y : Operand} {ts : Array TypeId} (ho : o.op = .call { callee := .builtin .copy, args := #[x, y], argTypes := ts }) (hts : ts = #[46, 46]) {i j n cap cap2 t u m : Nat} {f g : Nat → Nat}
    (hx : S.av x = some (.s i 0 n cap)) (hy : S.av y = some (.s j 0 n cap2)) (hi : S.blk i = some ⟨icv f cap, t⟩) (hj : S.blk j = some ⟨icv g m, u⟩) (h1 : n ≤ cap) (h2 : n ≤ m) :
    OpOK Try.prog F ops o S { val := .v (.int .i64 n), wr := some (i, ⟨icv (fun k => if k < n then g k else f k) cap, t⟩), rd := [i, j] } := by
  subst hts
  refine .of hw fun ρ a w Q K q1 q2 _ h4 => ?_
  have e1 : a.eval x = .slice (some ⟨ρ i, 0, none⟩) n cap := q1 x (by simp [ho, Op.operands, Call.operands]) _ hx
  have e2 : a.eval y = .slice (some ⟨ρ j, 0, none⟩) n cap2 := q1 y (by simp [ho, Op.operands, Call.operands]) _ hy
  have e3 := q2 i (by simp) _ hi
  have e4 := q2 j (by simp) _ hj
  have hl := load_list (m := n) e4 h2
  have hst := run_storeCells_at (P := Try.prog) (ρ i) 0 t (icv g n).toList 0 (icv f cap) w e3 (by simp; omega) (fun v hv => (Array.all_eq_true_iff_forall_mem.1 (one_icv g n)) v (by simpa using hv))
  have hcs := drop_icv f cap 0 (icv g n).toList n (by simp) (by omega) (fun k => if k < n then g k else f k) (fun k hk => by
    by_cases h : k < n
    · rw [if_pos (by omega), Nat.sub_zero, Array.getElem?_toList, icv_get g n k h]; simp [h]
    · rw [if_neg (by omega)]; simp [h])
  simp only [Nat.add_zero, Nat.zero_add, Array.length_toList, size_icv] at hst hcs
  rw [hcs] at hst
  have hr : (execOp a.eval o).run Try.prog w = .ok (.value (.int .i64 n)) (w.setRow (ρ i) (icv (fun k => if k < n then g k else f k) cap)) := by
    simp [execOp, ho, resolve, invoke, builtin, e1, e2, Builtin.copy_, run_underlying u46, run_sizeOf' sz3, Builtin.lenOf, Builtin.firstCells, hl, hst, goInt]
  unfold Oper.wp
  rw [hr, Oper.upon_value]
  exact h4 _ _ 0 ⟨rfl, rfl, rfl, rfl, by simp, fun k _ hk => setRow_other w _ k _ (hk _ rfl), fun z hz => by cases hz; exact setRow_heap w _ _ _ _ _ e3, fun z hz => by cases hz⟩
end
attribute [irreducible] icv
end Go.Proofs.Ytnbdeajjfhlmnaa
