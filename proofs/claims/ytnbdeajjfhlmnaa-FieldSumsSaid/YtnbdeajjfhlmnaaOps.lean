/-
  The operations of the region rule, kind by kind: what each does to an abstract state.
-/
import Derived.Test.YtnbdeajjfhlmnaaDag
namespace Go.Proofs.Ytnbdeajjfhlmnaa
open Go.RowKit

def St.av (S : St) : Operand → Option AV
  | .tmp t => S.slot t
  | .const v => some (.v v)
  | .func f => some (.v (.func (.func f) #[] #[]))
  | .global _ => none

def want (ops : Array Oper) (S : St) (o : Oper) : Option Bool :=
  match o.guard with
  | none => some true
  | some (g, b) => match ((ops[g]?).bind (·.dst)).bind S.slot with
    | some av => match av.id?, av.val 0 with
      | none, .bool c => some (c == b)
      | _, _ => none
    | none => none

section
variable {P : Program} {F : Fr} {ops : Array Oper} {S : St} {o : Oper}

theorem eval_av {ρ : Nat → Nat} {a : Act} (h : ∀ k ∈ o.looksAt ops, ∀ av, S.slot k = some av → a.tmps[k]? = some (av.to ρ)) {x : Operand} (hx : x ∈ o.op.operands) {av : AV}
    (hav : S.av x = some av) : a.eval x = av.to ρ := by
  cases x with
  | tmp t =>
    have hm : t ∈ o.looksAt ops := List.mem_append_left _ (List.mem_filterMap.2 ⟨.tmp t, by simpa using hx, rfl⟩)
    have := h t hm av hav
    simp [Act.eval, this]
  | const v => cases hav; rfl
  | global g => cases hav
  | func f => cases hav; rfl

theorem want_spec {ρ : Nat → Nat} {a : Act} (h : ∀ k ∈ o.looksAt ops, ∀ av, S.slot k = some av → a.tmps[k]? = some (av.to ρ)) {t : Bool} (hw : want ops S o = some t) :
    Region.wanted o (yielded ops a.tmps) = t := by
  unfold want at hw
  unfold Region.wanted
  cases hg : o.guard with
  | none => simp only [hg] at hw; cases hw; rfl
  | some gb =>
    obtain ⟨g, b⟩ := gb
    simp only [hg] at hw
    cases hd : (ops[g]?).bind (·.dst) with
    | none => simp [hd] at hw
    | some d =>
      simp only [hd, Option.bind_some] at hw
      cases hs : S.slot d with
      | none => simp [hs] at hw
      | some av =>
        simp only [hs] at hw
        have hm : d ∈ o.looksAt ops := List.mem_append_right _ (by simp [hg, hd])
        have hv := h d hm av hs
        obtain ⟨i, f⟩ := av
        cases i with
        | some i => simp at hw
        | none =>
          simp only at hw
          cases hf : f 0 with
          | bool c =>
            simp only [hf] at hw
            cases hw
            have : yielded ops a.tmps g = some c := by
              unfold yielded
              rw [hd]
              simp [hv, AV.to, hf]
            simp only [this]
            cases c <;> cases b <;> rfl
          | _ => simp [hf] at hw

/-- An operation that is wanted. -/
theorem OpOK.of (hw : want ops S o = some true) {e : Eff}
    (h : ∀ (ρ : Nat → Nat) (a : Act) (w : World) (Q : Exit → Act → World → Prop) (K : Act → World → Prop),
      (∀ x ∈ o.op.operands, ∀ av, S.av x = some av → a.eval x = av.to ρ) → (∀ i ∈ e.rd, ∀ b, S.blk i = some b → w.heap[ρ i]? = some b.obj) → Keeps F w →
      (∀ v w' n, Out ρ e w v w' n → K (a.put o.dst v) w') → o.wp P a w K Q) : OpOK P F ops o S e := by
  intro ρ a w Q K h1 h2 h3 h4
  rw [want_spec h1 hw]
  exact h ρ a w Q K (fun x hx av hav => eval_av h1 hx hav) h2 h3 h4

/-- One that is passed over. -/
theorem ok_skip (hw : want ops S o = some false) : OpOK P F ops o S { val := .v undef } := by
  intro ρ a w Q K h1 _ _ h4
  rw [want_spec h1 hw]
  simp only [Bool.false_eq_true, if_false]
  exact h4 _ _ 0 ⟨rfl, rfl, rfl, rfl, Nat.le_refl _, fun _ _ _ => rfl, (fun _ h => by cases h), (fun _ h => by cases h)⟩

theorem Out.same {ρ : Nat → Nat} {av : AV} {rd : List Nat} {w : World} : Out ρ { val := av, rd := rd } w (av.to ρ) w 0 :=
  ⟨rfl, rfl, rfl, rfl, Nat.le_refl _, fun _ _ _ => rfl, (fun _ h => by cases h), (fun _ h => by cases h)⟩

theorem ok_value (hw : want ops S o = some true) {av : AV} {rd : List Nat}
    (h : ∀ (ρ : Nat → Nat) (a : Act) (w : World), (∀ x ∈ o.op.operands, ∀ av, S.av x = some av → a.eval x = av.to ρ) → (∀ i ∈ rd, ∀ b, S.blk i = some b → w.heap[ρ i]? = some b.obj) →
      Keeps F w → (execOp a.eval o).run P w = .ok (.value (av.to ρ)) w) : OpOK P F ops o S { val := av, rd := rd } := by
  refine .of hw fun ρ a w Q K h1 h2 h3 h4 => ?_
  unfold Oper.wp
  rw [h ρ a w h1 h2 h3, Oper.upon_value]
  exact h4 _ _ 0 Out.same

theorem ok_move (hw : want ops S o = some true) {x : Operand} (ho : o.op = .move x) {av : AV} (hx : S.av x = some av) : OpOK P F ops o S { val := av } :=
  ok_value hw fun ρ a w h1 _ _ => by
    have := h1 x (by simp [ho, Op.operands]) av hx
    simp [execOp, ho, this]
theorem ok_assign (hw : want ops S o = some true) {x : Operand} (ho : o.op = .assign x) {av : AV} (hx : S.av x = some av) : OpOK P F ops o S { val := av } :=
  ok_value hw fun ρ a w h1 _ _ => by
    have := h1 x (by simp [ho, Op.operands]) av hx
    simp [execOp, ho, this]
theorem ok_pick_true (hw : want ops S o = some true) {c x y : Operand} (ho : o.op = .pick c x y) (hc : S.av c = some (.v (.bool true))) {av : AV} (hx : S.av x = some av) :
    OpOK P F ops o S { val := av } :=
  ok_value hw fun ρ a w h1 _ _ => by
    have e1 := h1 c (by simp [ho, Op.operands]) _ hc
    have e2 := h1 x (by simp [ho, Op.operands]) av hx
    simp [execOp, ho, e1, e2, asBool]
theorem ok_pick_false (hw : want ops S o = some true) {c x y : Operand} (ho : o.op = .pick c x y) (hc : S.av c = some (.v (.bool false))) {av : AV} (hy : S.av y = some av) :
    OpOK P F ops o S { val := av } :=
  ok_value hw fun ρ a w h1 _ _ => by
    have e1 := h1 c (by simp [ho, Op.operands]) _ hc
    have e2 := h1 y (by simp [ho, Op.operands]) av hy
    simp [execOp, ho, e1, e2, asBool]

/-! ### operations of plain values -/

def St.fn (S : St) : Operand → Value := fun x => match S.av x with | some av => av.val 0 | none => undef
def St.plain (S : St) (o : Oper) : Bool := (o.op.operands.all fun x => match S.av x with | some av => av.id?.isNone | none => false) && (match o.op with | .select .. => false | _ => true)

theorem ok_pure (hw : want ops S o = some true) (hp : S.plain o = true) {v : Value} (h : ∀ w, (execOp S.fn o).run P w = .ok (.value v) w) : OpOK P F ops o S { val := .v v } :=
  ok_value hw fun ρ a w h1 _ _ => by
    simp only [St.plain, Bool.and_eq_true] at hp
    have : execOp a.eval o = execOp S.fn o := execOp_congr o (fun cs b he => by simp [he] at hp) fun x hx => by
      have hx' := Array.all_eq_true_iff_forall_mem.1 hp.1 x hx
      cases hs : S.av x with
      | none => simp [hs] at hx'
      | some av =>
        simp only [hs] at hx'
        rw [h1 x hx av hs]
        obtain ⟨i, f⟩ := av
        cases i with
        | some i => simp at hx'
        | none => simp [AV.to, St.fn, hs]
    rw [this, h w]; rfl

/-! ### memory -/

def tAgg (P : Program) (t : TypeId) : Bool := match P.underlying t with | some (.struct _) | some (.array _ _) => true | _ => false
def tOne (P : Program) (t : TypeId) : Bool := match P.underlying t with | none | some (.struct _) | some (.array _ _) => false | some _ => true
def tSize (P : Program) (t : TypeId) : Option Nat := (P.info? t).map (·.size)
def tZero (P : Program) (t : TypeId) : Option Value := (P.info? t).bind (·.zero)

theorem run_isAgg_true {t : TypeId} (h : tAgg P t = true) (w : World) : (isAgg t).run P w = .ok true w := by
  unfold tAgg at h
  cases hu : P.underlying t with
  | none => simp [hu] at h
  | some d => unfold isAgg; rw [Sem.run_bind, run_underlying hu]; cases d <;> simp_all
theorem run_isAgg_false {t : TypeId} (h : tOne P t = true) (w : World) : (isAgg t).run P w = .ok false w := by
  unfold tOne at h
  cases hu : P.underlying t with
  | none => simp [hu] at h
  | some d => unfold isAgg; rw [Sem.run_bind, run_underlying hu]; cases d <;> simp_all
theorem run_sizeOf' {t : TypeId} {n : Nat} (h : tSize P t = some n) (w : World) : (sizeOf t).run P w = .ok n w := by
  unfold tSize at h
  cases hi : P.info? t with
  | none => simp [hi] at h
  | some i => simp [hi] at h; simp [sizeOf, typeInfo, hi, h]
theorem run_zeroValue' {t : TypeId} {z : Value} (h : tZero P t = some z) (w : World) : (zeroValue t).run P w = .ok z w := by
  unfold tZero at h
  cases hi : P.info? t with
  | none => simp [hi] at h
  | some i => simp [hi] at h; simp [zeroValue, typeInfo, hi, h]

theorem add_none (b o n : Nat) : (⟨b, o, none⟩ : Addr).add n = ⟨b, o + n, none⟩ := by unfold Addr.add; split <;> simp_all
theorem cell_of_obj {w : World} {g : Nat} {b : Blk} (h : w.heap[g]? = some b.obj) (j : Nat) : w.cell? ⟨g, j, none⟩ = b.cells[j]? := by
  simp [World.cell?, h, Blk.obj]

theorem run_loadAgg {t : TypeId} {n : Nat} {w : World} {g off : Nat} {cs : Array Value} (ht : tAgg P t = true) (hn : tSize P t = some n) (hsz : cs.size = n)
    (hc : ∀ k, k < n → w.cell? ⟨g, off + k, none⟩ = cs[k]?) : (loadVar t ⟨g, off, none⟩).run P w = .ok (.agg cs) w := by
  have hl : (loadCells ⟨g, off, none⟩ cs.toList.length).run P w = .ok cs.toList.toArray w :=
    run_loadCells_list (P := P) w ⟨g, off, none⟩ cs.toList (fun j v hv => by
      have hlt : j < n := by
        rw [← hsz]; have := (List.getElem?_eq_some_iff.1 hv).1; simpa using this
      rw [add_none, hc j hlt]
      simpa using hv)
  simp only [Array.length_toList, Array.toArray_toList, hsz] at hl
  simp [loadVar, Sem.run_bind, run_isAgg_true ht, run_sizeOf' hn, hl]

/-- a whole block read -/
theorem ok_load_whole (hw : want ops S o = some true) {t : TypeId} {x : Operand} (ho : o.op = .load t x) {i : Nat} {b : Blk} (hx : S.av x = some (.p i 0)) (hb : S.blk i = some b)
    {n : Nat} (ht : tAgg P t = true) (hn : tSize P t = some n) (hsz : b.cells.size = n) : OpOK P F ops o S { val := .v (.agg b.cells), rd := [i] } :=
  ok_value hw fun ρ a w h1 h2 _ => by
    have e1 := h1 x (by simp [ho, Op.operands]) _ hx
    have e2 := h2 i (by simp) b hb
    have := run_loadAgg (P := P) (w := w) (g := ρ i) (off := 0) (cs := b.cells) ht hn hsz (fun k _ => by rw [cell_of_obj e2]; simp)
    simp [execOp, ho, e1, Instr.loadAt, Instr.sureAddr, this]
/-- a part of a block read, of more than one cell -/
theorem ok_load_part (hw : want ops S o = some true) {t : TypeId} {x : Operand} (ho : o.op = .load t x) {i off : Nat} {b : Blk} (hx : S.av x = some (.p i off)) (hb : S.blk i = some b)
    {n : Nat} (ht : tAgg P t = true) (hn : tSize P t = some n) {cs : Array Value} (hsz : cs.size = n) (hc : ∀ k, k < n → b.cells[off + k]? = cs[k]?) :
    OpOK P F ops o S { val := .v (.agg cs), rd := [i] } :=
  ok_value hw fun ρ a w h1 h2 _ => by
    have e1 := h1 x (by simp [ho, Op.operands]) _ hx
    have e2 := h2 i (by simp) b hb
    have := run_loadAgg (P := P) (w := w) (g := ρ i) (off := off) (cs := cs) ht hn hsz (fun k hk => by rw [cell_of_obj e2]; exact hc k hk)
    simp [execOp, ho, e1, Instr.loadAt, Instr.sureAddr, this]
/-- one cell read -/
theorem ok_load_cell (hw : want ops S o = some true) {t : TypeId} {x : Operand} (ho : o.op = .load t x) {i off : Nat} {b : Blk} (hx : S.av x = some (.p i off)) (hb : S.blk i = some b)
    (ht : tOne P t = true) {v : Value} (hv : b.cells[off]? = some v) : OpOK P F ops o S { val := .v v, rd := [i] } :=
  ok_value hw fun ρ a w h1 h2 _ => by
    have e1 := h1 x (by simp [ho, Op.operands]) _ hx
    have e2 := cell_of_obj (h2 i (by simp) b hb) off
    simp [execOp, ho, e1, Instr.loadAt, Instr.sureAddr, loadVar, run_isAgg_false ht, e2, hv]
/-- .. out of memory that was there when the call began -/
theorem ok_load_agg_ro (hw : want ops S o = some true) {t : TypeId} {x : Operand} (ho : o.op = .load t x) {g off : Nat} (hx : S.av x = some (.v (.pointer (some ⟨g, off, none⟩)))) (hM : ¬ F.M g)
    {n : Nat} (ht : tAgg P t = true) (hn : tSize P t = some n) {cs : Array Value} (hsz : cs.size = n) (hc : ∀ k, k < n → F.W.cell? ⟨g, off + k, none⟩ = cs[k]?) :
    OpOK P F ops o S { val := .v (.agg cs) } :=
  ok_value hw fun ρ a w h1 _ h3 => by
    have e1 := h1 x (by simp [ho, Op.operands]) _ hx
    have := run_loadAgg (P := P) (w := w) (g := g) (off := off) (cs := cs) ht hn hsz (fun k hk => by
      rw [← hc k hk]
      have : (F.W.cell? ⟨g, off + k, none⟩) = some cs[k] := by rw [hc k hk]; simp
      exact h3.cell (p := ⟨g, off + k, none⟩) (World.block_lt_of_cell? F.W _ this) hM)
    simp [execOp, ho, e1, Instr.loadAt, Instr.sureAddr, this]
theorem ok_load_cell_ro (hw : want ops S o = some true) {t : TypeId} {x : Operand} (ho : o.op = .load t x) {p : Addr} (hx : S.av x = some (.v (.pointer (some p)))) (hM : ¬ F.M p.block)
    (ht : tOne P t = true) {v : Value} (hc : F.W.cell? p = some v) : OpOK P F ops o S { val := .v v } :=
  ok_value hw fun ρ a w h1 _ h3 => by
    have e1 := h1 x (by simp [ho, Op.operands]) _ hx
    have e2 : w.cell? p = some v := by rw [← hc]; exact h3.cell (World.block_lt_of_cell? F.W _ hc) hM
    simp [execOp, ho, e1, Instr.loadAt, Instr.sureAddr, loadVar, run_isAgg_false ht, e2]

theorem heap_alloc_same (w : World) (ob : Obj) : (w.alloc ob).heap[w.heap.size]? = some ob := by
  show (w.heap.push ob)[w.heap.size]? = some ob
  simp
theorem heap_alloc_lt (w : World) (ob : Obj) {b : Nat} (h : b < w.heap.size) : (w.alloc ob).heap[b]? = w.heap[b]? := by
  show (w.heap.push ob)[b]? = w.heap[b]?
  rw [Array.getElem?_push, if_neg (Nat.ne_of_lt h)]

/-- a new block -/
theorem Out.alloc {ρ : Nat → Nat} {e : Eff} {w : World} {i : Nat} {b : Blk} (hn : e.new = some (i, b)) (hwr : e.wr = none) {v : Value} (hv : v = e.val.to (upd ρ e w.heap.size)) :
    Out ρ e w v (w.alloc b.obj) w.heap.size :=
  ⟨hv, rfl, rfl, rfl, by simp, fun k hk _ => heap_alloc_lt w _ hk, fun x hx => by (rw [hwr] at hx; cases hx), fun x hx => by
    rw [hn] at hx; cases hx; exact ⟨Nat.le_refl _, heap_alloc_same w _⟩⟩

theorem ok_alloc (i : Nat) (hw : want ops S o = some true) {t : TypeId} (ho : o.op = .alloc t) {z : Value} (hz : tZero P t = some z) :
    OpOK P F ops o S { val := .p i 0, new := some (i, ⟨z.cells, t⟩) } := by
  refine .of hw fun ρ a w Q K _ _ _ h4 => ?_
  have hr : (execOp a.eval o).run P w = .ok (.value (.pointer (some ⟨w.heap.size, 0, none⟩))) (w.alloc (Blk.obj ⟨z.cells, t⟩)) := by
    simp [execOp, ho, Instr.alloc, run_zeroValue' hz, newVar, newRow, Blk.obj]
  unfold Oper.wp
  rw [hr, Oper.upon_value]
  exact h4 _ _ w.heap.size (Out.alloc rfl rfl (by simp [AV.p, AV.to, upd]))
theorem ok_box (i : Nat) (hw : want ops S o = some true) {t : TypeId} {x : Operand} (ho : o.op = .box t x) {v : Value} (hx : S.av x = some (.v v)) :
    OpOK P F ops o S { val := .p i 0, new := some (i, ⟨v.cells, t⟩) } := by
  refine .of hw fun ρ a w Q K h1 _ _ h4 => ?_
  have e1 := h1 x (by simp [ho, Op.operands]) _ hx
  have hr : (execOp a.eval o).run P w = .ok (.value (.pointer (some ⟨w.heap.size, 0, none⟩))) (w.alloc (Blk.obj ⟨v.cells, t⟩)) := by
    simp [execOp, ho, Instr.box, newVar, newRow, Blk.obj, e1]
  unfold Oper.wp
  rw [hr, Oper.upon_value]
  exact h4 _ _ w.heap.size (Out.alloc rfl rfl (by simp [AV.p, AV.to, upd]))

/-- a store into an own block: some cells of it, side by side -/
theorem Out.store {ρ : Nat → Nat} {e : Eff} {w : World} {i : Nat} {b : Blk} {cs : Array Value} (hwr : e.wr = some (i, ⟨cs, b.ty⟩)) (hn : e.new = none) (hb : w.heap[ρ i]? = some b.obj)
    (hv : e.val = .v undef) : Out ρ e w undef (w.setRow (ρ i) cs) 0 :=
  ⟨by rw [hv]; rfl, rfl, rfl, rfl, by simp, fun k _ hk => setRow_other w _ k cs (hk _ hwr), fun x hx => by
    rw [hwr] at hx; cases hx; exact setRow_heap w _ _ cs _ _ hb, fun x hx => by (rw [hn] at hx; cases hx)⟩

theorem ok_store (hw : want ops S o = some true) {t : TypeId} {x y : Operand} (ho : o.op = .store t x y) {i off : Nat} {b : Blk} {v : Value} (hx : S.av x = some (.p i off)) (hy : S.av y = some (.v v))
    (hb : S.blk i = some b) {n : Nat} (hn : tSize P t = some n) (hvs : v.cells.size = n) (h1c : v.cells.all (·.oneCell') = true) (hoff : off + n ≤ b.cells.size) {cs : Array Value}
    (hcs : (b.cells.toList.take off ++ v.cells.toList ++ b.cells.toList.drop (off + n)).toArray = cs) :
    OpOK P F ops o S { val := .v undef, wr := some (i, ⟨cs, b.ty⟩), rd := [i] } := by
  refine .of hw fun ρ a w Q K h1 h2 _ h4 => ?_
  have e1 := h1 x (by simp [ho, Op.operands]) _ hx
  have e2 := h1 y (by simp [ho, Op.operands]) _ hy
  have e3 := h2 i (by simp) b hb
  have hst := run_storeCells_at (P := P) (ρ i) off b.ty v.cells.toList 0 b.cells w e3 (by simp; omega) (fun u hu => (Array.all_eq_true_iff_forall_mem.1 h1c) u (by simpa using hu))
  have hr : (execOp a.eval o).run P w = .ok .skip (w.setRow (ρ i) cs) := by
    simp only [Nat.add_zero, Array.length_toList, hvs, hcs] at hst
    simp [execOp, ho, e1, e2, Instr.storeAt, Instr.sureAddr, storeVar, run_sizeOf' hn, hvs, hst]
  unfold Oper.wp
  rw [hr, Oper.upon_skip]
  exact h4 _ _ 0 (Out.store rfl rfl e3 rfl)
/-- the whole block -/
theorem ok_store_whole (hw : want ops S o = some true) {t : TypeId} {x y : Operand} (ho : o.op = .store t x y) {i : Nat} {b : Blk} {cs : Array Value} (hx : S.av x = some (.p i 0))
    (hy : S.av y = some (.v (.agg cs))) (hb : S.blk i = some b) {n : Nat} (hn : tSize P t = some n) (hvs : cs.size = n) (h1c : cs.all (·.oneCell') = true) (hsz : b.cells.size = n) :
    OpOK P F ops o S { val := .v undef, wr := some (i, ⟨cs, b.ty⟩), rd := [i] } :=
  ok_store hw ho hx hy hb hn hvs h1c (by omega) (by simp [Value.cells, List.drop_eq_nil_of_le, hsz])
/-- one cell -/
theorem ok_store_cell (hw : want ops S o = some true) {t : TypeId} {x y : Operand} (ho : o.op = .store t x y) {i off : Nat} {b : Blk} {v : Value} (hx : S.av x = some (.p i off))
    (hy : S.av y = some (.v v)) (hb : S.blk i = some b) (hn : tSize P t = some 1) (h1c : v.oneCell' = true) (hoff : off < b.cells.size) :
    OpOK P F ops o S { val := .v undef, wr := some (i, ⟨b.cells.setIfInBounds off v, b.ty⟩), rd := [i] } := by
  have hc : v.cells = #[v] := by cases v <;> first | rfl | cases h1c
  refine ok_store hw ho hx hy hb hn (by rw [hc]; rfl) (by rw [hc]; simp [h1c]) (by omega) ?_
  rw [hc]
  apply Array.ext'
  simp only [Array.toList_setIfInBounds]
  rw [List.set_eq_take_append_cons_drop, if_pos (by simpa using hoff)]
  simp

/-! ### places -/
theorem ok_index_arr (hw : want ops S o = some true) {t : TypeId} {x ix : Operand} (ho : o.op = .indexAddr t x ix) {i off : Nat} {k : IntKind} {j : Nat} (hx : S.av x = some (.p i off))
    (hi : S.av ix = some (.v (.int k j))) {len e n : Nat} (hu : P.underlying t = some (.array len e)) (hn : tSize P e = some n) (hj : j < len) :
    OpOK P F ops o S { val := .p i (off + j * n) } :=
  ok_value hw fun ρ a w h1 _ _ => by
    have e1 := h1 x (by simp [ho, Op.operands]) _ hx
    have e2 := h1 ix (by simp [ho, Op.operands]) _ hi
    simp [execOp, ho, e1, e2, Instr.indexAt, asIntOf, run_underlying hu, Instr.sureAddr, run_sizeOf' hn, hj, add_none]
theorem ok_index_slice (hw : want ops S o = some true) {t : TypeId} {x ix : Operand} (ho : o.op = .indexAddr t x ix) {i off len cap : Nat} {k : IntKind} {j : Nat} (hx : S.av x = some (.s i off len cap))
    (hi : S.av ix = some (.v (.int k j))) {e n : Nat} (hu : P.underlying t = some (.slice e)) (hn : tSize P e = some n) (hj : j < len) :
    OpOK P F ops o S { val := .p i (off + j * n) } :=
  ok_value hw fun ρ a w h1 _ _ => by
    have e1 := h1 x (by simp [ho, Op.operands]) _ hx
    have e2 := h1 ix (by simp [ho, Op.operands]) _ hi
    simp [execOp, ho, e1, e2, Instr.indexAt, asIntOf, run_underlying hu, run_sizeOf' hn, hj, add_none]
theorem ok_index_slice_ro (hw : want ops S o = some true) {t : TypeId} {x ix : Operand} (ho : o.op = .indexAddr t x ix) {g off len cap : Nat} {k : IntKind} {j : Nat}
    (hx : S.av x = some (.v (.slice (some ⟨g, off, none⟩) len cap))) (hi : S.av ix = some (.v (.int k j))) {e n : Nat} (hu : P.underlying t = some (.slice e)) (hn : tSize P e = some n) (hj : j < len) :
    OpOK P F ops o S { val := .v (.pointer (some ⟨g, off + j * n, none⟩)) } :=
  ok_value hw fun ρ a w h1 _ _ => by
    have e1 := h1 x (by simp [ho, Op.operands]) _ hx
    have e2 := h1 ix (by simp [ho, Op.operands]) _ hi
    simp [execOp, ho, e1, e2, Instr.indexAt, asIntOf, run_underlying hu, run_sizeOf' hn, hj, add_none]
theorem ok_field (hw : want ops S o = some true) {t : TypeId} {x : Operand} {f : Nat} (ho : o.op = .fieldAddr t x f) {i off : Nat} (hx : S.av x = some (.p i off))
    {fs : Array Field} {fd : Field} (hu : P.underlying t = some (.struct fs)) (hf : fs[f]? = some fd) {n : Nat} (hn : tSize P fd.type = some n) (hn0 : n ≠ 0) :
    OpOK P F ops o S { val := .p i (off + fd.offset) } :=
  ok_value hw fun ρ a w h1 _ _ => by
    have e1 := h1 x (by simp [ho, Op.operands]) _ hx
    simp [execOp, ho, e1, Instr.fieldAt, run_underlying hu, hf, Instr.sureAddr, fieldPlace, run_sizeOf' hn, hn0, add_none]

/-! ### calls -/
theorem ok_len (hw : want ops S o = some true) {x : Operand} {t : TypeId} (ho : o.op = .call { callee := .builtin .len, args := #[x], argTypes := #[t] }) {i off len cap : Nat}
    (hx : S.av x = some (.s i off len cap)) {e : TypeId} (hu : P.underlying t = some (.slice e)) : OpOK P F ops o S { val := .v (.int .i64 len) } :=
  ok_value hw fun ρ a w h1 _ _ => by
    have e1 := h1 x (by simp [ho, Op.operands, Call.operands]) _ hx
    simp [execOp, ho, resolve, invoke, builtin, e1, Builtin.len_, run_underlying hu, goInt]
theorem ok_len_ro (hw : want ops S o = some true) {x : Operand} {t : TypeId} (ho : o.op = .call { callee := .builtin .len, args := #[x], argTypes := #[t] }) {ad : Option Addr} {len cap : Nat}
    (hx : S.av x = some (.v (.slice ad len cap))) {e : TypeId} (hu : P.underlying t = some (.slice e)) : OpOK P F ops o S { val := .v (.int .i64 len) } :=
  ok_value hw fun ρ a w h1 _ _ => by
    have e1 := h1 x (by simp [ho, Op.operands, Call.operands]) _ hx
    simp [execOp, ho, resolve, invoke, builtin, e1, Builtin.len_, run_underlying hu, goInt]

/-- A Go function that has a body. -/
def goFn (P : Program) (f : FuncId) : Bool := match P.funcs[f]? with | some fn => fn.body.isSome && !(fn.name == "runtime.NumGoroutine") | none => false

theorem ok_call (hw : want ops S o = some true) {f : FuncId} {args : Array Operand} {ts : Array TypeId} (ho : o.op = .call { callee := .value (.func f), args := args, argTypes := ts })
    (hf : goFn P f = true) (avs : List AV) (ha : args.toList.mapM S.av = some avs) {e : Eff}
    (hc : ∀ (ρ : Nat → Nat) (w : World), (∀ i ∈ e.rd, ∀ b, S.blk i = some b → w.heap[ρ i]? = some b.obj) → Keeps F w →
      Calls P f (avs.map (·.to ρ)).toArray w fun en w' => ∃ v n, en = .returned v ∧ Out ρ e w v w' n) : OpOK P F ops o S e := by
  refine .of hw fun ρ a w Q K h1 h2 h3 h4 => ?_
  have hargs : args.map a.eval = (avs.map (·.to ρ)).toArray := by
    apply Array.ext'
    simp only [Array.toList_map]
    have hmem : ∀ x ∈ args.toList, x ∈ o.op.operands := fun x hx => by simp [ho, Op.operands, Call.operands]; exact .inr (by simpa using hx)
    clear ho hc
    revert hmem ha
    generalize args.toList = l
    intro ha
    induction l generalizing avs with
    | nil => simp at ha; subst ha; simp
    | cons x l ih =>
      intro hmem
      rw [List.mapM_cons] at ha
      cases hx : S.av x with
      | none => simp [hx] at ha
      | some av =>
        cases hl : l.mapM S.av with
        | none => simp [hx, hl] at ha
        | some r =>
          simp [hx, hl] at ha
          subst ha
          simp [h1 x (hmem x (by simp)) av hx]
          have := ih r hl (fun y hy => hmem y (by simp [hy]))
          simpa using this
  have hfn := h1 (.func f) (by simp [ho, Op.operands, Call.operands]) _ rfl
  unfold goFn at hf
  cases hg : P.funcs[f]? with
  | none => simp [hg] at hf
  | some fn =>
    simp only [hg, Bool.and_eq_true, Bool.not_eq_true'] at hf
    have hb : ¬ fn.body = none := by have := hf.1; intro hn; rw [hn] at this; cases this
    have hne : ¬ fn.name = "runtime.NumGoroutine" := by simpa using hf.2
    have hr : (execOp a.eval o).run P w = .ok (.enter f (avs.map (·.to ρ)).toArray) w := by
      simp [execOp, ho, resolve, Deferred.ofValue, Act.eval, invoke, callFunc, hg, hne, hb]
      have := hargs
      simpa using this
    unfold Oper.wp
    rw [hr, Oper.upon_enter]
    refine (hc ρ w h2 h3).mono fun en w' he => ?_
    obtain ⟨v, n, rfl, out⟩ := he
    exact h4 v w' n out

end
end Go.Proofs.Ytnbdeajjfhlmnaa
