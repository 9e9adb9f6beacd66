/-
  Slices of rows: what a slice owns; what is read of it; a row more.
-/
import Derived.Test.YtnppgaohfegloaaPre
import Derived.Maps.AppendAt
import Derived.Laws.OwnMore
import Derived.OwnWalkIn
namespace Go.Proofs.Ytnppgaohfegloaa
open Go.RowKit

def catR : List RowR → List Value
  | [] => []
  | x :: l => (rwc x).toList ++ catR l
theorem catR_append (l m : List RowR) : catR (l ++ m) = catR l ++ catR m := by
  induction l with
  | nil => rfl
  | cons x l ih => simp [catR, ih]
theorem len_catR (l : List RowR) : (catR l).length = l.length * 19 := by
  induction l with
  | nil => rfl
  | cons x l ih =>
    have : (rwc x).toList.length = 19 := rfl
    rw [catR, List.length_append, this, ih, List.length_cons]
    omega
theorem catR_get {l : List RowR} {i k : Nat} {x : RowR} (hi : l[i]? = some x) (hk : k < 19) : (catR l)[i * 19 + k]? = (rwc x)[k]? := by
  induction l generalizing i with
  | nil => simp at hi
  | cons y l ih =>
    have hl : (rwc y).toList.length = 19 := rfl
    cases i with
    | zero =>
      simp at hi
      subst hi
      rw [catR, List.getElem?_append_left (by rw [hl]; omega)]
      simp
    | succ i =>
      rw [catR, List.getElem?_append_right (by rw [hl]; omega), hl, show (i + 1) * 19 + k - 19 = i * 19 + k by omega]
      exact ih (by simpa using hi)
theorem one_catR (l : List RowR) : ∀ u ∈ catR l, u.oneCell' = true := by
  induction l with
  | nil => intro u hu; cases hu
  | cons x l ih =>
    intro u hu
    rcases List.mem_append.1 hu with h | h
    · have := one_rwc x
      rw [Array.all_eq_true'] at this
      exact this u (by simpa using h)
    · exact ih u h
theorem row_slice {w : World} {base : Nat} {e : TypeId} {v : Value} {n : Nat} {xs : List Value} (h : w.ownsRow base e 19 v n xs) : v.oneCell' = true := by
  rcases h.2 with ⟨rfl, _⟩ | ⟨g, cap, cur, rfl, _⟩ <;> rfl
/-- what a slice of rows is -/
theorem row_form {w : World} {base : Nat} {e : TypeId} {v : Value} {n : Nat} {xs : List Value} (h : w.ownsRow base e 19 v n xs) :
    (v = .slice none 0 0 ∧ n = 0 ∧ xs = []) ∨ ∃ g cap, v = .slice (some ⟨g, 0, none⟩) n cap ∧ base ≤ g ∧ n ≤ cap ∧ (∃ cur, w.heap[g]? = some (cobj cur e)) ∧ ∀ j, j < n * 19 → w.cell? ⟨g, j, none⟩ = xs[j]? := by
  rcases h.2 with ⟨rfl, rfl⟩ | ⟨g, cap, cur, rfl, hb, hg, hn, hm, hs, ht⟩
  · refine .inl ⟨rfl, rfl, ?_⟩
    have := h.1
    exact List.eq_nil_of_length_eq_zero (by omega)
  · refine .inr ⟨g, cap, rfl, hb, hn, ⟨cur, hg⟩, fun j hj => ?_⟩
    rw [cell_of_obj (show hp w g = some (cobj cur e) from hg), ← ht, List.getElem?_take_of_lt hj]
    simp
theorem row_turn {B : Nat} {w w' : World} {base : Nat} {e : TypeId} {size : Nat} {v : Value} {n : Nat} {xs : List Value} (h : w.ownsRow base e size v n xs) (ht : Turn B w w') : w'.ownsRow base e size v n xs := by
  refine ⟨h.1, ?_⟩
  rcases h.2 with h2 | ⟨g, cap, cur, rfl, hb, hg, rest⟩
  · exact .inl h2
  · exact .inr ⟨g, cap, cur, rfl, hb, ht.same _ _ hg (.inr rfl), rest⟩
theorem row_ne {w : World} {base : Nat} {e t : TypeId} {v : Value} {n : Nat} {xs : List Value} (h : w.ownsRow base e 19 v n xs) {k : Nat} {cs : Array Value} (hk : w.heap[k]? = some (cobj cs t)) (hte : t ≠ e) : some k ≠ v.ownBlock := by
  rcases row_form h with ⟨rfl, _⟩ | ⟨g, cap, rfl, _, _, ⟨cur, hg⟩, _⟩
  · simp [Value.ownBlock]
  · intro e'
    have e2 : k = g := by simpa [Value.ownBlock] using e'
    rw [e2, hg] at hk
    simp only [cobj, Option.some.injEq, Obj.cells.injEq] at hk
    exact hte hk.2.1.symm
theorem row_nocells {w : World} {base : Nat} {e : TypeId} {v : Value} {n : Nat} {xs : List Value} (h : w.ownsRow base e 19 v n xs) {k : Nat} {o : Obj} (hk : w.heap[k]? = some o) (hc : o.isCells = false) : some k ≠ v.ownBlock := by
  rcases row_form h with ⟨rfl, _⟩ | ⟨g, cap, rfl, _, _, ⟨cur, hg⟩, _⟩
  · simp [Value.ownBlock]
  · intro e'
    have e2 : k = g := by simpa [Value.ownBlock] using e'
    rw [e2, hg] at hk
    cases hk
    cases hc
theorem row_base {w : World} {base : Nat} {e : TypeId} {v : Value} {n : Nat} {xs : List Value} (h : w.ownsRow base e 19 v n xs) {k : Nat} (hk : some k = v.ownBlock) : base ≤ k := by
  rcases row_form h with ⟨rfl, _⟩ | ⟨g, cap, rfl, hb, _⟩
  · simp [Value.ownBlock] at hk
  · have : k = g := by simpa [Value.ownBlock] using hk
    omega
theorem info73 : ∃ ie, Try.prog.info? 73 = some ie ∧ ie.size = 19 ∧ ie.zero = some (.agg (rwc ⟨false, 0, 0, 0⟩)) ∧ ie.bytes ≤ 1000 := by
  have h1 := zero73
  have h2 := sz73
  have h3 : (Try.prog.info? 73).all (fun ie => decide (ie.bytes ≤ 1000)) = true := by kernel_rfl
  unfold tZero at h1
  unfold tSize at h2
  cases hi : Try.prog.info? 73 with
  | none => simp [hi] at h2
  | some ie =>
    simp only [hi, Option.map_some, Option.some.injEq, Option.bind_some, Option.all_some, decide_eq_true_eq] at h1 h2 h3
    exact ⟨ie, rfl, h2, h1, h3⟩
theorem zero76 : tZero Try.prog 76 = some (.agg (rwc ⟨false, 0, 0, 0⟩)) := by kernel_rfl
theorem agg76 : tAgg Try.prog 76 = true := by kernel_rfl
theorem sz76 : tSize Try.prog 76 = some 19 := by kernel_rfl
theorem info76 : ∃ ie, Try.prog.info? 76 = some ie ∧ ie.size = 19 ∧ ie.zero = some (.agg (rwc ⟨false, 0, 0, 0⟩)) ∧ ie.bytes ≤ 1000 := by
  have h1 := zero76
  have h2 := sz76
  have h3 : (Try.prog.info? 76).all (fun ie => decide (ie.bytes ≤ 1000)) = true := by kernel_rfl
  unfold tZero at h1
  unfold tSize at h2
  cases hi : Try.prog.info? 76 with
  | none => simp [hi] at h2
  | some ie =>
    simp only [hi, Option.map_some, Option.some.injEq, Option.bind_some, Option.all_some, decide_eq_true_eq] at h1 h2 h3
    exact ⟨ie, rfl, h2, h1, h3⟩
theorem u68' : Try.prog.underlying 68 = some (.slice 73) := Try.underlying68
theorem u49 : Try.prog.underlying 49 = some (.slice 76) := Try.underlying49
theorem one68' : tOne Try.prog 68 = true := by kernel_rfl
theorem one49 : tOne Try.prog 49 = true := by kernel_rfl
theorem sz68 : tSize Try.prog 68 = some 1 := by kernel_rfl
theorem sz49 : tSize Try.prog 49 = some 1 := by kernel_rfl
theorem zero68' : tZero Try.prog 68 = some (.slice none 0 0) := by kernel_rfl
theorem fill73 (x : RowR) : Instr.fill (fun i => some (i * 19, 19)) ((Array.range (1 * 19)).map ((rwc ⟨false, 0, 0, 0⟩)[· % (rwc ⟨false, 0, 0, 0⟩).size]!)) [(0, .agg (rwc x))] = some (rwc x) := by kernel_rfl
section
variable {F : Fr} {ops : Array Oper} {S : St} {o : Oper}
theorem o_lit73 (i : Nat) (hw : want ops S o = some true) {x : Operand} (ho : o.op = .buildSlice 68 1 #[(0, x)]) {p : RowR} (hx : S.av x = some (.v (.agg (rwc p)))) : OpOK Try.prog F ops o S { val := .s i 0 1 1, new := some (i, .mk (rwc p) 73) } := by
  refine .of hw fun ρ a w Q K h1 h2 h3' h4 => ?_
  have e1 := h1 x (by simp [ho, Op.operands]) _ hx
  obtain ⟨ie, hie, hsz, hz, _⟩ := info73
  have hb := run_buildSlice w 68 73 1 #[(0, a.eval x)] (rwc p) ie _ u68' hie hz (by rw [hsz]; decide) (by rw [hsz]; decide) (by rw [hsz, e1]; exact fill73 p)
  have hr : (execOp a.eval o).run Try.prog w = .ok (.value (.slice (some ⟨w.heap.size, 0, none⟩) 1 1)) (w.alloc (cobj (rwc p) 73)) := by
    simp [execOp, ho, hb, cobj]
  unfold Oper.wp
  rw [hr, Oper.upon_value]
  exact h4 _ _ _ (Out.alloc (by simp [AV.to, AV.s, upd]))
theorem o_lit76 (i : Nat) (hw : want ops S o = some true) {x : Operand} (ho : o.op = .buildSlice 49 1 #[(0, x)]) {p : RowR} (hx : S.av x = some (.v (.agg (rwc p)))) : OpOK Try.prog F ops o S { val := .s i 0 1 1, new := some (i, .mk (rwc p) 76) } := by
  refine .of hw fun ρ a w Q K h1 h2 h3' h4 => ?_
  have e1 := h1 x (by simp [ho, Op.operands]) _ hx
  obtain ⟨ie, hie, hsz, hz, _⟩ := info76
  have hb := run_buildSlice w 49 76 1 #[(0, a.eval x)] (rwc p) ie _ u49 hie hz (by rw [hsz]; decide) (by rw [hsz]; decide) (by rw [hsz, e1]; exact fill73 p)
  have hr : (execOp a.eval o).run Try.prog w = .ok (.value (.slice (some ⟨w.heap.size, 0, none⟩) 1 1)) (w.alloc (cobj (rwc p) 76)) := by
    simp [execOp, ho, hb, cobj]
  unfold Oper.wp
  rw [hr, Oper.upon_value]
  exact h4 _ _ _ (Out.alloc (by simp [AV.to, AV.s, upd]))
end
def ρ1 (i b : Nat) : Pl := ⟨fun _ => b, fun j n => j = i ∧ n = b⟩
def slotsOf1 (i b : Nat) (a : Act) : List (Nat × AV) → Prop
  | [] => True
  | p :: l => ((∃ x, p.2 = .v x ∧ a.tmps[p.1]? = some x) ∨ (∃ off, p.2 = .p i off ∧ a.tmps[p.1]? = some (.pointer (some ⟨b, off, none⟩)))) ∧ slotsOf1 i b a l
theorem slotsOf1_mem {i b : Nat} {a : Act} : ∀ {l : List (Nat × AV)}, slotsOf1 i b a l → ∀ p ∈ l, ((∃ x, p.2 = .v x ∧ a.tmps[p.1]? = some x) ∨ (∃ off, p.2 = .p i off ∧ a.tmps[p.1]? = some (.pointer (some ⟨b, off, none⟩))))
  | p :: l, h, q, hq => by
    rcases List.mem_cons.1 hq with rfl | hq
    · exact h.1
    · exact slotsOf1_mem h.2 q hq
/-- from here on: one old block may be written -/
theorem Rep.of_act1 {N : Nat} {a : Act} {D : List Deferred} (w : World) (hD : a.defers = D) (hN : a.tmps.size = N) (i b : Nat) {cs : Array Value} {ty : TypeId} (hb : w.heap[b]? = some (cobj cs ty)) (sl : List (Nat × AV)) (hs : slotsOf1 i b a sl) :
    Rep N ⟨sl, [(i, .mk cs ty)]⟩ (ρ1 i b) { W := w, M := fun n => n = b, D := D } a w := by
  have hblk : ∀ k e, St.blk ⟨sl, [(i, .mk cs ty)]⟩ k = some e → k = i ∧ e = .mk cs ty := fun k e hk => by
    have := lookup_mem (show List.lookup k [(i, Blk.mk cs ty)] = some e from hk)
    simp only [List.mem_cons, List.not_mem_nil, or_false, Prod.mk.injEq] at this
    exact this
  refine ⟨hD, hN, fun k av hk => ?_, fun k e hk => ?_, fun k e hk n hn => ?_, fun j k e e' n hj hk hn hn' => ?_, fun k av j hk hj => ?_, Keeps.refl _⟩
  · rcases slotsOf1_mem hs _ (lookup_mem hk) with ⟨x, hx, h1⟩ | ⟨off, hx, h1⟩
    · simp only at hx
      subst hx
      exact h1
    · simp only at hx
      subst hx
      exact h1
  · obtain ⟨rfl, rfl⟩ := hblk k e hk
    exact ⟨hb, by funext n; simp [ρ1]⟩
  · exact .inr hn.2
  · exact (hblk j e hj).1.trans (hblk k e' hk).1.symm
  · rcases slotsOf1_mem hs _ (lookup_mem hk) with ⟨x, hx, h1⟩ | ⟨off, hx, h1⟩
    · simp only at hx
      subst hx
      cases hj
    · simp only at hx
      subst hx
      have : i = j := by simpa [AV.p] using hj
      exact ⟨.mk cs ty, by simp [St.blk, this]⟩
/-- one operation within a round that makes no block: the numbers stay -/
theorem wplI_stepN {P : Program} {r : Option Nat} {F : Fr} {ops : Array Oper} {S : St} {o : Oper} {rest : List Oper} {N : Nat} {ρ : Pl} {a : Act} {w : World} {Q : Exit → Act → World → Prop} {e : Eff} (h : Rep N S ρ F a w) (hd : noDef o = true) (hnew : e.new = none) (hop : OpOK P F ops o S e)
    (h1 : dstB N o = true) (h2 : freshB S e = true) (h3 : wroteB S e = true) (h4 : idB S e = true)
    (hR : ∀ ρ' a' w', (∀ i, Pl.num ρ' i = Pl.num ρ i) → Rep N (S.step o.dst e) ρ' F a' w' → wpListIn (FW r) 0 P ops Q rest a' w') : wpListIn (FW r) 0 P ops Q (o :: rest) a w := by
  have := hop ρ a w Q (wpListIn (FW r) 0 P ops Q rest) (fun k _ av hk => h.slots k av hk) (fun i _ b hb => h.mem i b hb) h.keeps (fun v w' n ho => hR _ _ _ (fun i => by simp [upd, hnew]) (h.stepB h1 h2 h3 h4 ho))
  unfold wpListIn
  split at this
  · rename_i hw
    rw [if_pos hw]
    exact oper_in hd this
  · rename_i hw
    rw [if_neg hw]
    exact ⟨fun _ _ => trivial, this⟩
theorem row_keep {w w' : World} {base : Nat} {e : TypeId} {size : Nat} {v : Value} {n : Nat} {xs : List Value} (h : w.ownsRow base e size v n xs) (hk : ∀ g, some g = v.ownBlock → w'.heap[g]? = w.heap[g]?) : w'.ownsRow base e size v n xs := by
  refine ⟨h.1, ?_⟩
  rcases h.2 with h2 | ⟨g, cap, cur, rfl, hb, hg, rest⟩
  · exact .inl h2
  · exact .inr ⟨g, cap, cur, rfl, hb, (hk g rfl).trans hg, rest⟩
theorem row_lt {w : World} {base : Nat} {e : TypeId} {v : Value} {n : Nat} {xs : List Value} (h : w.ownsRow base e 19 v n xs) {g : Nat} (hg : some g = v.ownBlock) : g < w.heap.size := by
  rcases row_form h with ⟨rfl, _⟩ | ⟨g', cap, rfl, _, _, ⟨cur, hc⟩, _⟩
  · simp [Value.ownBlock] at hg
  · have : g = g' := by simpa [Value.ownBlock] using hg
    rw [this]
    exact lt_of_heap hc
end Go.Proofs.Ytnppgaohfegloaa
