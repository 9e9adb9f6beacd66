/-
  Slices of arrays of 32 bytes: what the memory holds, the literal, the length, one element, all but the first.
-/
import Derived.Test.YtnbdeajjfhlmnaaStore
import Derived.Great.BuildSlice
namespace Go.Proofs.Ytnbdeajjfhlmnaa
open Go.RowKit

/-- the slice v holds the numbers l, in the world w -/
def Sl (w : World) (v : Value) (l : List Nat) : Prop :=
  ∃ ad cap, v = .slice ad l.length cap ∧ l.length ≤ cap ∧ ∀ j, j < l.length → ∃ g off, ad = some ⟨g, off, none⟩ ∧ ∀ k, k < 32 → w.cell? ⟨g, off + j * 32 + k, none⟩ = some (byteV (l.getD j 0) k)

def catl : List Nat → List Value
  | [] => []
  | n :: l => (bvc n).toList ++ catl l
def catc (l : List Nat) : Array Value := (catl l).toArray
theorem catl_length (l : List Nat) : (catl l).length = l.length * 32 := by
  induction l with
  | nil => rfl
  | cons n l ih => simp only [catl, List.length_append, ih, List.length_cons, Array.length_toList, size_bvc]; omega
theorem catl_get (l : List Nat) (j k : Nat) (hj : j < l.length) (hk : k < 32) : (catl l)[j * 32 + k]? = some (byteV (l.getD j 0) k) := by
  induction l generalizing j with
  | nil => simp at hj
  | cons n l ih =>
    cases j with
    | zero =>
      simp only [catl, Nat.zero_mul, Nat.zero_add, List.getD_cons_zero]
      rw [List.getElem?_append_left (by simpa using hk), Array.getElem?_toList]
      exact get_bvc_lt n k hk
    | succ j =>
      simp only [catl, List.getD_cons_succ]
      rw [List.getElem?_append_right (by simp only [Array.length_toList, size_bvc]; omega)]
      have : (j + 1) * 32 + k - (bvc n).toList.length = j * 32 + k := by simp only [Array.length_toList, size_bvc]; omega
      rw [this]
      exact ih j (by simpa using hj)
theorem catc_get (l : List Nat) (j k : Nat) (hj : j < l.length) (hk : k < 32) : (catc l)[j * 32 + k]? = some (byteV (l.getD j 0) k) := by
  simp only [catc, List.getElem?_toArray]
  exact catl_get l j k hj hk

theorem Sl.of_blk {w : World} {g : Nat} {l : List Nat} (h : w.heap[g]? = some (Blk.obj ⟨catc l, 24⟩)) : Sl w (.slice (some ⟨g, 0, none⟩) l.length l.length) l :=
  ⟨_, _, rfl, Nat.le_refl _, fun j hj => ⟨g, 0, rfl, fun k hk => by
    rw [cell_of_obj h, Nat.zero_add]
    exact catc_get l j k hj hk⟩⟩
theorem Sl.keeps {F : Fr} (hM : ∀ b, ¬ F.M b) {w : World} (hk : Keeps F w) {v : Value} {l : List Nat} (h : Sl F.W v l) : Sl w v l := by
  obtain ⟨ad, cap, h1, h2, h3⟩ := h
  refine ⟨ad, cap, h1, h2, fun j hj => ?_⟩
  obtain ⟨g, off, h4, h5⟩ := h3 j hj
  refine ⟨g, off, h4, fun k hk' => ?_⟩
  rw [← h5 k hk']
  exact hk.cell (p := ⟨g, off + j * 32 + k, none⟩) (World.block_lt_of_cell? F.W _ (h5 k hk')) (hM g)
theorem Sl.below {w w' : World} (hb : Below w.heap.size w w') {v : Value} {l : List Nat} (h : Sl w v l) : Sl w' v l := by
  obtain ⟨ad, cap, h1, h2, h3⟩ := h
  refine ⟨ad, cap, h1, h2, fun j hj => ?_⟩
  obtain ⟨g, off, h4, h5⟩ := h3 j hj
  refine ⟨g, off, h4, fun k hk' => ?_⟩
  rw [← h5 k hk']
  exact World.cell?_of_block (hb.block g (World.block_lt_of_cell? w _ (h5 k hk')))

theorem u22 : Try.prog.underlying 22 = some (.slice 24) := Try.underlying22

theorem fill1 (a : Nat) : Instr.fill (fun i => some (i * 32, 32)) ((Array.range (1 * 32)).map ((bv 0).cells[· % (bv 0).cells.size]!)) [(0, bv a)] = some (catc [a]) := by kernel_rfl
theorem fill2 (a b : Nat) : Instr.fill (fun i => some (i * 32, 32)) ((Array.range (2 * 32)).map ((bv 0).cells[· % (bv 0).cells.size]!)) [(0, bv a), (1, bv b)] = some (catc [a, b]) := by kernel_rfl
theorem fill3 (a b c : Nat) : Instr.fill (fun i => some (i * 32, 32)) ((Array.range (3 * 32)).map ((bv 0).cells[· % (bv 0).cells.size]!)) [(0, bv a), (1, bv b), (2, bv c)] = some (catc [a, b, c]) := by kernel_rfl
theorem run_lit {l : List Nat} {parts : Array (Nat × Value)} (hf : Instr.fill (fun i => some (i * 32, 32)) ((Array.range (l.length * 32)).map ((bv 0).cells[· % (bv 0).cells.size]!)) parts.toList = some (catc l)) (h0 : 0 < l.length) (h3 : l.length ≤ 3) (w : World) :
    (Instr.buildSlice 22 l.length parts).run Try.prog w = .ok (.slice (some ⟨w.heap.size, 0, none⟩) l.length l.length) (w.alloc (Blk.obj ⟨catc l, 24⟩)) := by
  have hz := zero24
  have hs := sz24
  unfold tZero at hz
  unfold tSize at hs
  cases hi : Try.prog.info? 24 with
  | none => simp [hi] at hs
  | some ie =>
    simp only [hi, Option.map_some, Option.some.injEq, Option.bind_some] at hz hs
    exact run_buildSlice w 22 24 l.length parts (catc l) ie (bv 0) u22 hi hz (by rw [hs]; omega) (by rw [hs]; omega) (by rw [hs]; exact hf)

section
variable {F : Fr} {ops : Array Oper} {S : St} {o : Oper}
theorem o_lit (i : Nat) (hw : want ops S o = some true) {n : Nat} {parts : Array (Nat × Operand)} (ho : o.op = .buildSlice 22 n parts) (hp : S.plain o = true) (l : List Nat) (hn : n = l.length) (h0 : 0 < l.length) (h3 : l.length ≤ 3)
    (hf : Instr.fill (fun i => some (i * 32, 32)) ((Array.range (l.length * 32)).map ((bv 0).cells[· % (bv 0).cells.size]!)) (parts.map fun p => (p.1, S.fn p.2)).toList = some (catc l)) :
    OpOK Try.prog F ops o S { val := .s i 0 l.length l.length, new := some (i, ⟨catc l, 24⟩) } := by
  subst hn
  refine .of hw fun ρ a w Q K h1 h2 h3' h4 => ?_
  have e : parts.map (fun p => (p.1, a.eval p.2)) = parts.map fun p => (p.1, S.fn p.2) := by
    apply Array.map_congr_left
    intro p hmem
    have hx : p.2 ∈ o.op.operands := by
      simp only [ho, Op.operands]
      exact List.mem_toArray.2 (List.mem_map.2 ⟨p, by simpa using hmem, rfl⟩)
    have hp' := hp
    simp only [St.plain, Bool.and_eq_true] at hp'
    have h5 := Array.all_eq_true_iff_forall_mem.1 hp'.1 p.2 hx
    cases hav : S.av p.2 with
    | none => simp [hav] at h5
    | some av =>
      simp only [hav, Option.isNone_iff_eq_none] at h5
      have := h1 p.2 hx av hav
      rw [this]
      simp only [St.fn, hav, AV.to, h5]
  have hr : (execOp a.eval o).run Try.prog w = .ok (.value (.slice (some ⟨w.heap.size, 0, none⟩) l.length l.length)) (w.alloc (Blk.obj ⟨catc l, 24⟩)) := by
    simp only [execOp, ho, e]
    rw [Sem.run_bind, run_lit hf h0 h3 w]
    rfl
  unfold Oper.wp
  rw [hr, Oper.upon_value]
  exact h4 _ _ _ (Out.alloc rfl rfl (by simp [AV.to, AV.s, upd]))
theorem o_lit1 (i : Nat) (hw : want ops S o = some true) {n : Nat} {x : Operand} (hn : n = 1) (ho : o.op = .buildSlice 22 n #[(0, x)]) {a : Nat} (hx : S.av x = some (.v (bv a))) :
    OpOK Try.prog F ops o S { val := .s i 0 1 1, new := some (i, ⟨catc [a], 24⟩) } :=
  o_lit i hw ho (by simp [St.plain, ho, Op.operands, hx, AV.v]) [a] hn (by simp) (by simp) (by simp only [Array.toList_map, List.map_cons, List.map_nil, St.fn, hx]; exact fill1 a)
theorem o_lit2 (i : Nat) (hw : want ops S o = some true) {n : Nat} {x y : Operand} (hn : n = 2) (ho : o.op = .buildSlice 22 n #[(0, x), (1, y)]) {a b : Nat} (hx : S.av x = some (.v (bv a))) (hy : S.av y = some (.v (bv b))) :
    OpOK Try.prog F ops o S { val := .s i 0 2 2, new := some (i, ⟨catc [a, b], 24⟩) } :=
  o_lit i hw ho (by simp [St.plain, ho, Op.operands, hx, hy, AV.v]) [a, b] hn (by simp) (by simp) (by simp only [Array.toList_map, List.map_cons, List.map_nil, St.fn, hx, hy]; exact fill2 a b)
theorem o_lit3 (i : Nat) (hw : want ops S o = some true) {n : Nat} {x y z : Operand} (hn : n = 3) (ho : o.op = .buildSlice 22 n #[(0, x), (1, y), (2, z)]) {a b c : Nat} (hx : S.av x = some (.v (bv a))) (hy : S.av y = some (.v (bv b))) (hz : S.av z = some (.v (bv c))) :
    OpOK Try.prog F ops o S { val := .s i 0 3 3, new := some (i, ⟨catc [a, b, c], 24⟩) } :=
  o_lit i hw ho (by simp [St.plain, ho, Op.operands, hx, hy, hz, AV.v]) [a, b, c] hn (by simp) (by simp) (by simp only [Array.toList_map, List.map_cons, List.map_nil, St.fn, hx, hy, hz]; exact fill3 a b c)

/-- the element at an index: its place, and what lies there -/
theorem o_at22 (hw : want ops S o = some true) {x ix : Operand} (ho : o.op = .indexAddr 22 x ix) {g off len cap : Nat} {k : IntKind} {j : Nat} (hx : S.av x = some (.v (.slice (some ⟨g, off, none⟩) len cap)))
    (hi : S.av ix = some (.v (.int k j))) (hj : j < len) : OpOK Try.prog F ops o S { val := .v (.pointer (some ⟨g, off + j * 32, none⟩)) } :=
  ok_index_slice_ro hw ho hx hi u22 sz24 hj
theorem o_load24ro (hw : want ops S o = some true) {x : Operand} (ho : o.op = .load 24 x) {g off n : Nat} (hx : S.av x = some (.v (.pointer (some ⟨g, off, none⟩)))) (hM : ¬ F.M g)
    (hc : ∀ k, k < 32 → F.W.cell? ⟨g, off + k, none⟩ = some (byteV n k)) : OpOK Try.prog F ops o S { val := .v (bv n) } :=
  bv_def n ▸ ok_load_agg_ro hw ho hx hM agg24 sz24 (size_bvc n) fun k hk => by rw [hc k hk, get_bvc_lt n k hk]
theorem o_len22 (hw : want ops S o = some true) {x : Operand} {t : TypeId} (ho : o.op = .call { callee := .builtin .len, args := #[x], argTypes := #[t] }) {ad : Option Addr} {len cap : Nat}
    (hx : S.av x = some (.v (.slice ad len cap))) (ht : t = 22) : OpOK Try.prog F ops o S { val := .v (.int .i64 len) } := by
  subst ht
  exact ok_len_ro hw ho hx u22
/-- all but the first -/
theorem o_tail22 (hw : want ops S o = some true) {x : Operand} (ho : o.op = .slice 22 x (some (.const (.int .i64 1))) none none) {g off len cap : Nat} (hx : S.av x = some (.v (.slice (some ⟨g, off, none⟩) len cap))) (h1 : 1 ≤ len) :
    OpOK Try.prog F ops o S { val := .v (.slice (some (if cap = 1 then ⟨g, off, none⟩ else ⟨g, off + 32, none⟩)) (len - 1) (cap - 1)) } :=
  ok_value hw fun ρ a w h2 _ _ => by
    have e1 := h2 x (by simp [ho, Op.operands]) _ hx
    have hb : (0 : Int) ≤ 1 ∧ (1 : Int) ≤ len := by omega
    have e2 : a.eval (.const (.int .i64 1)) = .int .i64 1 := rfl
    have hn : ¬ ((len : Int) < 1) := by omega
    by_cases hc : cap = 1 <;> simp [execOp, ho, e1, e2, Instr.sliceAt, Instr.slice, Instr.sliceBounds, Instr.sliceBound, run_underlying u22, asIntOf, run_sizeOf' sz24, hb, hc, add_none]
end
end Go.Proofs.Ytnbdeajjfhlmnaa
