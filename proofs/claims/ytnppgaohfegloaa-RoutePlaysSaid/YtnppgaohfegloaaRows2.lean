/-
  Slices of calls: those that come in, and one that grows.
-/
import Derived.Test.YtnppgaohfegloaaEqPfx
import Derived.Great.BuildSlice
namespace Go.Proofs.Ytnppgaohfegloaa
open Go.RowKit

structure OpR where
  k : Int
  o : Int
  v : Bool
  n : Nat
  b : Int
def OpR.c (p : OpR) : Array Value := opc p.k p.o p.v p.n p.b
def catO : List OpR → List Value
  | [] => []
  | p :: l => p.c.toList ++ catO l
theorem catO_length (l : List OpR) : (catO l).length = l.length * 20 := by
  induction l with
  | nil => rfl
  | cons p l ih => simp only [catO, List.length_append, List.length_cons, ih, Array.length_toList]; rw [OpR.c, size_opc]; omega
theorem catO_append (m n : List OpR) : catO (m ++ n) = catO m ++ catO n := by
  induction m with
  | nil => rfl
  | cons a m ih => simp only [List.cons_append, catO, ih, List.append_assoc]
theorem catO_get : ∀ (l : List OpR) (j i : Nat) (p : OpR), l[j]? = some p → i < 20 → (catO l)[j * 20 + i]? = p.c[i]?
  | q :: l, 0, i, p, h, hi => by
    cases h
    rw [catO, Nat.zero_mul, Nat.zero_add, List.getElem?_append_left (by rw [Array.length_toList, OpR.c, size_opc]; exact hi), Array.getElem?_toList]
  | q :: l, j + 1, i, p, h, hi => by
    have hl : q.c.toList.length = 20 := by rw [Array.length_toList, OpR.c, size_opc]
    rw [catO, List.getElem?_append_right (by omega), hl, show (j + 1) * 20 + i - 20 = j * 20 + i by omega]
    exact catO_get l j i p (by simpa using h) hi
theorem one_catO (l : List OpR) : ∀ v ∈ catO l, v.oneCell' = true := by
  induction l with
  | nil => intro v hv; cases hv
  | cons a l ih =>
    intro v hv
    rcases List.mem_append.1 hv with h | h
    · exact (Array.all_eq_true_iff_forall_mem.1 (one_opc a.k a.o a.v a.n a.b)) v (by simpa [OpR.c] using h)
    · exact ih v h

def lsl (m : List OpR) (c : Nat) : AV := ⟨some 98, fun b => if m = [] then .slice none 0 0 else .slice (some ⟨b, 0, none⟩) m.length c⟩
def listA (m : List OpR) (c : Nat) : Ext where
  holds := fun r f H => if m = [] then f = fun _ => False else ∃ xs : List Value, m.length ≤ c ∧ xs.length = (c - m.length) * 20 ∧ H r = some (cobj (catO m ++ xs).toArray 40) ∧ f = fun n => n = r
  loc := by
    intro r f H H' h hh
    by_cases hm : m = []
    · rw [if_pos hm] at h ⊢
      exact h
    · rw [if_neg hm] at h ⊢
      obtain ⟨xs, h1, h2, h3, h4⟩ := h
      exact ⟨xs, h1, h2, by rw [hh r (by rw [h4])]; exact h3, h4⟩
  live := by
    intro r f H n h hn
    by_cases hm : m = []
    · rw [if_pos hm] at h
      rw [h] at hn
      exact hn.elim
    · rw [if_neg hm] at h
      obtain ⟨xs, h1, h2, h3, h4⟩ := h
      rw [h4] at hn
      exact ⟨_, by rw [hn]; exact h3⟩
theorem lsl_nil (c : Nat) (ρ : Pl) : (lsl [] c).to ρ = .slice none 0 0 := rfl
theorem lsl_some {m : List OpR} (hm : m ≠ []) (c : Nat) (ρ : Pl) : (lsl m c).to ρ = .slice (some ⟨ρ 98, 0, none⟩) m.length c := by simp [lsl, AV.to, hm]
theorem listA_some {m : List OpR} (hm : m ≠ []) {c r : Nat} {f : Nat → Prop} {H : Hp} (h : (listA m c).holds r f H) : ∃ xs : List Value, m.length ≤ c ∧ xs.length = (c - m.length) * 20 ∧ H r = some (cobj (catO m ++ xs).toArray 40) ∧ f = fun n => n = r := by
  have h' : if m = [] then f = fun _ => False else ∃ xs : List Value, m.length ≤ c ∧ xs.length = (c - m.length) * 20 ∧ H r = some (cobj (catO m ++ xs).toArray 40) ∧ f = fun n => n = r := h
  rwa [if_neg hm] at h'
/-- a thing of which nothing is asked -/
theorem Rep.ghost {N : Nat} {S : St} {ρ : Pl} {F : Fr} {a : Act} {w : World} (h : Rep N S ρ F a w) {k : Nat} (hk : S.slot k = some (.v (.slice none 0 0))) (sl : List (Nat × AV)) (mm : List (Nat × Blk)) (hs : slotsIn S sl) (hm : memIn S mm)
    (hne : (mm.all fun p => p.1 != 98) = true) (hl : liveB ⟨(k, lsl [] 0) :: sl, (98, .ext (listA [] 0)) :: mm⟩ = true) :
    Rep N ⟨(k, lsl [] 0) :: sl, (98, .ext (listA [] 0)) :: mm⟩ ⟨ρ.num, fun i => if i = 98 then fun _ => False else ρ.foot i⟩ F a w := by
  have hs' : ∀ p ∈ sl, S.slot p.1 = some p.2 := by
    clear hl
    revert hs
    induction sl with
    | nil => intro _ p hp; cases hp
    | cons q l ih => intro h p hp; rcases List.mem_cons.1 hp with rfl | hp; exact h.1; exact ih h.2 p hp
  have hblk : ∀ i b, St.blk ⟨(k, lsl [] 0) :: sl, (98, .ext (listA [] 0)) :: mm⟩ i = some b → (i = 98 ∧ b = .ext (listA [] 0)) ∨ (i ≠ 98 ∧ S.blk i = some b) := by
    intro i b hi
    rcases List.mem_cons.1 (lookup_mem hi) with h1 | h1
    · cases h1; exact .inl ⟨rfl, rfl⟩
    · have h2 := List.all_eq_true.1 hne _ h1
      exact .inr ⟨by simpa using h2, memIn_mem hm _ h1⟩
  refine ⟨h.defers, h.size, fun j av hj => ?_, fun i b hi => ?_, fun i b hi n hn => ?_, fun i j b c n hi hj hn hm' => ?_, fun j av i hj hi => ?_, h.keeps⟩
  · rcases List.mem_cons.1 (lookup_mem hj) with h1 | h1
    · cases h1
      rw [h.slots k _ hk]
      rfl
    · exact h.slots _ _ (hs' _ h1)
  · rcases hblk i b hi with ⟨rfl, rfl⟩ | ⟨h1, h2⟩
    · simp only [if_true]
      rfl
    · simp only [if_neg h1]
      exact h.mem i b h2
  · rcases hblk i b hi with ⟨rfl, rfl⟩ | ⟨h1, h2⟩
    · simp only [if_true] at hn
    · simp only [if_neg h1] at hn
      exact h.own i b h2 n hn
  · rcases hblk i b hi with ⟨rfl, rfl⟩ | ⟨h1, h2⟩
    · simp only [if_true] at hn
    · simp only [if_neg h1] at hn
      rcases hblk j c hj with ⟨rfl, rfl⟩ | ⟨h3, h4⟩
      · simp only [if_true] at hm'
      · simp only [if_neg h3] at hm'
        exact h.inj i j b c n h2 h4 hn hm'
  · have := List.all_eq_true.1 hl _ (lookup_mem hj)
    simp only [hi] at this
    exact Option.isSome_iff_exists.1 this
section
variable {F : Fr} {ops : Array Oper} {S : St} {o : Oper}
theorem o_llen (hw : want ops S o = some true) {x : Operand} (ho : o.op = .call { callee := .builtin .len, args := #[x], argTypes := #[36] }) {m : List OpR} {c : Nat} (hx : S.av x = some (lsl m c)) : OpOK Try.prog F ops o S { val := .v (.int .i64 (m.length : Nat)) } :=
  ok_value hw fun ρ a w h1 _ _ => by
    have e1 := h1 x (by simp [ho, Op.operands, Call.operands]) _ hx
    by_cases hm : m = []
    · subst hm
      rw [lsl_nil] at e1
      simp [execOp, ho, resolve, invoke, builtin, e1, Builtin.len_, run_underlying u36, goInt]
    · rw [lsl_some hm] at e1
      simp [execOp, ho, resolve, invoke, builtin, e1, Builtin.len_, run_underlying u36, goInt]
theorem o_lat (hw : want ops S o = some true) {x ix : Operand} (ho : o.op = .indexAddr 36 x ix) {m : List OpR} {c : Nat} {k : IntKind} {j : Nat} (hx : S.av x = some (lsl m c)) (hi : S.av ix = some (.v (.int k j))) (hj : j < m.length) : OpOK Try.prog F ops o S { val := .p 98 (j * 20) } :=
  ok_value hw fun ρ a w h1 _ _ => by
    have e1 := h1 x (by simp [ho, Op.operands]) _ hx
    have e2 := h1 ix (by simp [ho, Op.operands]) _ hi
    have hm : m ≠ [] := fun h => by rw [h] at hj; exact absurd hj (Nat.not_lt_zero j)
    rw [lsl_some hm] at e1
    simp [execOp, ho, e1, e2, Instr.indexAt, asIntOf, run_underlying u36, run_sizeOf' sz40, hj, add_none]
theorem l_cell {m : List OpR} {c j i : Nat} {p : OpR} {ρ : Pl} {w : World} (h : (Blk.ext (listA m c)).is (ρ 98) (ρ.foot 98) (hp w)) (hj : m[j]? = some p) (hi : i < 20) : w.cell? ⟨ρ 98, j * 20 + i, none⟩ = p.c[i]? := by
  have hm : m ≠ [] := fun h => by rw [h] at hj; simp at hj
  obtain ⟨xs, h1, h2, h3, h4⟩ := listA_some hm h
  have hjl : j < m.length := (List.getElem?_eq_some_iff.1 hj).1
  rw [cell_of_obj h3, List.getElem?_toArray, List.getElem?_append_left (by rw [catO_length]; omega)]
  exact catO_get m j i p hj hi
theorem o_ll31 (hw : want ops S o = some true) {x : Operand} (ho : o.op = .load 31 x) {m : List OpR} {c j : Nat} {p : OpR} (hx : S.av x = some (.p 98 (j * 20 + 2))) (hb : S.blk 98 = some (.ext (listA m c))) (hp' : m[j]? = some p) :
    OpOK Try.prog F ops o S { val := .v (.agg (pfc p.v p.n p.b)), rd := [98] } :=
  ok_value hw fun ρ a w h1 h2 _ => by
    have e1 := h1 x (by simp [ho, Op.operands]) _ hx
    have e2 := h2 98 (by simp) _ hb
    have := run_loadAgg (P := Try.prog) (t := 31) (w := w) (g := ρ 98) (off := j * 20 + 2) (cs := pfc p.v p.n p.b) agg31 sz31 rfl (fun k hk => by
      rw [Nat.add_assoc, l_cell e2 hp' (by omega)]
      exact opc_pfc _ _ _ _ _ k hk)
    simp [execOp, ho, e1, Instr.loadAt, Instr.sureAddr, this]
theorem o_ll3 (hw : want ops S o = some true) {x : Operand} (ho : o.op = .load 3 x) {m : List OpR} {c j : Nat} {p : OpR} (hx : S.av x = some (.p 98 (j * 20 + 1))) (hb : S.blk 98 = some (.ext (listA m c))) (hp' : m[j]? = some p) :
    OpOK Try.prog F ops o S { val := .v (.int .i64 p.o), rd := [98] } :=
  ok_value hw fun ρ a w h1 h2 _ => by
    have e1 := h1 x (by simp [ho, Op.operands]) _ hx
    have e2 := l_cell (i := 1) (h2 98 (by simp) _ hb) hp' (by decide)
    have e3 : w.cell? ⟨ρ 98, j * 20 + 1, none⟩ = some (.int .i64 p.o) := e2
    simp [execOp, ho, e1, Instr.loadAt, Instr.sureAddr, loadVar, run_isAgg_false one3, e3]
/-- out of what came in -/
theorem o_rat (hw : want ops S o = some true) {x ix : Operand} {t : TypeId} (ho : o.op = .indexAddr t x ix) {ad : Option Addr} {g off len cap : Nat} {k : IntKind} {j : Nat} (hx : S.av x = some (.v (.slice ad len cap))) (hi : S.av ix = some (.v (.int k j)))
    {e n : Nat} (hu : Try.prog.underlying t = some (.slice e)) (hn : tSize Try.prog e = some n) (had : ad = some ⟨g, off, none⟩) (hj : j < len) : OpOK Try.prog F ops o S { val := .v (.pointer (some ⟨g, off + j * n, none⟩)) } := by
  subst had
  exact ok_index_slice_ro hw ho hx hi hu hn hj
theorem o_r31 (hw : want ops S o = some true) {x : Operand} (ho : o.op = .load 31 x) {g off j : Nat} {p : OpR} (hx : S.av x = some (.v (.pointer (some ⟨g, off + j * 20 + 2, none⟩)))) (hM : ¬ F.M g) (hc : ∀ i, i < 20 → F.W.cell? ⟨g, off + j * 20 + i, none⟩ = p.c[i]?) :
    OpOK Try.prog F ops o S { val := .v (.agg (pfc p.v p.n p.b)) } :=
  ok_load_agg_ro hw ho hx hM agg31 sz31 rfl (fun k hk => by
    rw [show off + j * 20 + 2 + k = off + j * 20 + (2 + k) by omega, hc _ (by omega)]
    exact opc_pfc _ _ _ _ _ k hk)
theorem o_r40 (hw : want ops S o = some true) {x : Operand} (ho : o.op = .load 40 x) {g off j : Nat} {p : OpR} (hx : S.av x = some (.v (.pointer (some ⟨g, off + j * 20, none⟩)))) (hM : ¬ F.M g) (hc : ∀ i, i < 20 → F.W.cell? ⟨g, off + j * 20 + i, none⟩ = p.c[i]?) :
    OpOK Try.prog F ops o S { val := .v (.agg p.c) } :=
  ok_load_agg_ro hw ho hx hM agg40 sz40 rfl hc
theorem o_a24 (hw : want ops S o = some true) {x : Operand} (ho : o.op = .load 24 x) {g off j : Nat} {v : Bool} {n : Nat} (hx : S.av x = some (.v (.pointer (some ⟨g, off + j * 17, none⟩)))) (hM : ¬ F.M g) (hc : ∀ i, i < 17 → F.W.cell? ⟨g, off + j * 17 + i, none⟩ = (adc v n)[i]?) :
    OpOK Try.prog F ops o S { val := .v (.agg (adc v n)) } :=
  ok_load_agg_ro hw ho hx hM agg24 sz24 rfl hc
theorem fill40 (p : OpR) : Instr.fill (fun i => some (i * 20, 20)) ((Array.range (1 * 20)).map ((opc 0 0 false 0 0)[· % (opc 0 0 false 0 0).size]!)) [(0, .agg p.c)] = some p.c := by kernel_rfl
theorem zero40 : tZero Try.prog 40 = some (.agg (opc 0 0 false 0 0)) := by kernel_rfl
theorem info40 : ∃ ie, Try.prog.info? 40 = some ie ∧ ie.size = 20 ∧ ie.zero = some (.agg (opc 0 0 false 0 0)) ∧ ie.bytes ≤ 1000 := by
  have h1 := zero40
  have h2 := sz40
  have h3 : (Try.prog.info? 40).all (fun ie => decide (ie.bytes ≤ 1000)) = true := by kernel_rfl
  unfold tZero at h1
  unfold tSize at h2
  cases hi : Try.prog.info? 40 with
  | none => simp [hi] at h2
  | some ie =>
    simp only [hi, Option.map_some, Option.some.injEq, Option.bind_some, Option.all_some, decide_eq_true_eq] at h1 h2 h3
    exact ⟨ie, rfl, h2, h1, h3⟩
theorem o_lit40 (i : Nat) (hw : want ops S o = some true) {x : Operand} (ho : o.op = .buildSlice 36 1 #[(0, x)]) {p : OpR} (hx : S.av x = some (.v (.agg p.c))) : OpOK Try.prog F ops o S { val := .s i 0 1 1, new := some (i, .mk p.c 40) } := by
  refine .of hw fun ρ a w Q K h1 h2 h3' h4 => ?_
  have e1 := h1 x (by simp [ho, Op.operands]) _ hx
  obtain ⟨ie, hie, hsz, hz, _⟩ := info40
  have hb := run_buildSlice w 36 40 1 #[(0, a.eval x)] p.c ie _ u36 hie hz (by rw [hsz]; decide) (by rw [hsz]; decide) (by rw [hsz, e1]; exact fill40 p)
  have hr : (execOp a.eval o).run Try.prog w = .ok (.value (.slice (some ⟨w.heap.size, 0, none⟩) 1 1)) (w.alloc (cobj p.c 40)) := by
    simp [execOp, ho, hb, cobj]
  unfold Oper.wp
  rw [hr, Oper.upon_value]
  exact h4 _ _ _ (Out.alloc (by simp [AV.to, AV.s, upd]))
end
end Go.Proofs.Ytnppgaohfegloaa
