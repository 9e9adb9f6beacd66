/-
  Slices of the document's rows: a part of one, one put behind another; what a step leaves of the document's table.
-/
import Derived.Test.YtnppgaohfegloaaRel
import Derived.Test.YtnppgaohfegloaaDrop2
namespace Go.Proofs.Ytnppgaohfegloaa
open Go.RowKit

theorem catR_take (L : List RowR) : ∀ k, catR (L.take k) = (catR L).take (k * 19) := by
  induction L with
  | nil => intro k; simp [catR]
  | cons x L ih =>
    intro k
    have hl : (rwc x).toList.length = 19 := rfl
    cases k with
    | zero => simp [catR]
    | succ k =>
      rw [List.take_succ_cons, catR, ih, catR, List.take_append, hl, List.take_of_length_le (l := (rwc x).toList) (by rw [hl]; omega), show (k + 1) * 19 - 19 = k * 19 by omega]
theorem catR_drop (L : List RowR) : ∀ k, catR (L.drop k) = (catR L).drop (k * 19) := by
  induction L with
  | nil => intro k; simp [catR]
  | cons x L ih =>
    intro k
    have hl : (rwc x).toList.length = 19 := rfl
    cases k with
    | zero => simp [catR]
    | succ k =>
      rw [List.drop_succ_cons, ih, catR, List.drop_append, hl, List.drop_of_length_le (l := (rwc x).toList) (by rw [hl]; omega), show (k + 1) * 19 - 19 = k * 19 by omega]
      rfl
/-- a slice that holds these rows -/
def Src (w : World) (x : Value) (L : List RowR) : Prop := (x = .slice none 0 0 ∧ L = []) ∨ ∃ ad c, x = .slice (some ad) L.length c ∧ ∀ j u, (catR L)[j]? = some u → w.cell? (ad.add j) = some u
theorem src_take {w : World} {B : Nat} {ad : Option Addr} {cap : Nat} {L : List RowR} (h : w.ownsRow B 76 19 (.slice ad L.length cap) L.length (catR L)) {k : Nat} (hk : k ≤ L.length) : k ≤ cap ∧ Src w (sliced ad 0 k cap 19) (L.take k) := by
  rcases row_form h with ⟨h1, h2, h3⟩ | ⟨g, cap', h1, hB, hc, _, hcells⟩
  · obtain rfl : L = [] := List.eq_nil_of_length_eq_zero h2
    have hk0 : k = 0 := by simpa using hk
    subst hk0
    simp only [List.length_nil, Value.slice.injEq, true_and] at h1
    obtain ⟨rfl, rfl⟩ := h1
    exact ⟨Nat.zero_le _, .inl ⟨rfl, rfl⟩⟩
  · cases h1
    refine ⟨by omega, .inr ⟨⟨g, 0, none⟩, cap, ?_, fun j u hu => ?_⟩⟩
    · rw [List.length_take, Nat.min_eq_left hk]
      unfold sliced
      simp [add_none]
    · rw [catR_take, List.getElem?_take] at hu
      split at hu
      · have h5 : k * 19 ≤ L.length * 19 := Nat.mul_le_mul_right 19 hk
        rw [add_none, Nat.zero_add, hcells j (by omega)]
        exact hu
      · cases hu
theorem src_drop {w : World} {B : Nat} {ad : Option Addr} {cap : Nat} {L : List RowR} (h : w.ownsRow B 76 19 (.slice ad L.length cap) L.length (catR L)) {k : Nat} (hk : k ≤ L.length) : Src w (sliced ad k L.length cap 19) (L.drop k) := by
  rcases row_form h with ⟨h1, h2, h3⟩ | ⟨g, cap', h1, hB, hc, _, hcells⟩
  · obtain rfl : L = [] := List.eq_nil_of_length_eq_zero h2
    have hk0 : k = 0 := by simpa using hk
    subst hk0
    simp only [List.length_nil, Value.slice.injEq, true_and] at h1
    obtain ⟨rfl, rfl⟩ := h1
    exact .inl ⟨rfl, rfl⟩
  · cases h1
    by_cases e : cap = k
    · have hkl : k = L.length := by omega
      subst hkl
      refine .inr ⟨⟨g, 0, none⟩, 0, ?_, fun j u hu => ?_⟩
      · unfold sliced
        simp [e]
      · rw [List.drop_length] at hu
        simp [catR] at hu
    · refine .inr ⟨⟨g, k * 19, none⟩, cap - k, ?_, fun j u hu => ?_⟩
      · unfold sliced
        simp [e, add_none]
      · rw [catR_drop, List.getElem?_drop] at hu
        have hlt := (List.getElem?_eq_some_iff.1 hu).1
        rw [len_catR] at hlt
        rw [add_none, hcells _ hlt]
        exact hu
theorem src_one {w : World} {g : Nat} {x : RowR} (h : w.heap[g]? = some (cobj (rwc x) 76)) : Src w (.slice (some ⟨g, 0, none⟩) 1 1) [x] :=
  .inr ⟨_, 1, rfl, fun j u hu => by
    rw [add_none, Nat.zero_add, cell_of_obj (show hp w g = _ from h)]
    simpa [catR] using hu⟩
theorem run_app76 {w : World} {base : Nat} {v : Value} {L1 : List RowR} (hown : w.ownsRow base 76 19 v L1.length (catR L1)) {x : Value} {L2 : List RowR} (hx : Src w x L2) (hlen : L1.length + L2.length ≤ 1000) (hb : base ≤ w.heap.size) (ty : TypeId) :
    ∃ v' w', (Builtin.append_ #[49, 49] ty #[v, x]).run Try.prog w = .ok v' w' ∧ w'.ownsRow base 76 19 v' (L1 ++ L2).length (catR (L1 ++ L2)) ∧ w.grownBy w' v.ownBlock := by
  obtain ⟨ie, hie, hies, hiez, hieb⟩ := info76
  rcases hx with ⟨rfl, rfl⟩ | ⟨ad, c, rfl, hcells⟩
  · refine ⟨v, w, run_append_owned_none w base 49 ty 76 ie 19 u49 hie v _ _ hown, ?_, World.grownBy.refl w _⟩
    simpa using hown
  · have hb1 : L1.length + L2.length ≤ maxLen := Nat.le_trans hlen (by decide)
    have hb2 : (L1.length + L2.length) * ie.bytes ≤ 140737488355328 := by
      have : (L1.length + L2.length) * ie.bytes ≤ 1000 * 1000 := Nat.mul_le_mul hlen hieb
      omega
    obtain ⟨v', w', h1, h2, h3, _⟩ := run_append_own (P := Try.prog) w base 49 ty 76 ie _ 19 ie.bytes u49 hie hiez hies rfl rfl (by decide) v _ _ hown ad L2.length c (catR L2) (len_catR L2) hcells (one_catR L2) hb1 hb2 hb
    exact ⟨v', w', h1, by rw [List.length_append, catR_append]; exact h2, h3⟩
theorem wpl_app76 {ops : Array Oper} {o : Oper} {rest : List Oper} {a : Act} {w : World} {Q : Exit → Act → World → Prop} (hg : o.guard = none) {x y : Operand} (ho : o.op = .call { callee := .builtin .append, args := #[x, y], argTypes := #[49, 49] })
    {base : Nat} {v : Value} {L1 : List RowR} (hx : a.eval x = v) (hown : w.ownsRow base 76 19 v L1.length (catR L1)) {v2 : Value} {L2 : List RowR} (hy : a.eval y = v2) (hsrc : Src w v2 L2) (hlen : L1.length + L2.length ≤ 1000) (hb : base ≤ w.heap.size)
    (hK : ∀ v' w', w'.ownsRow base 76 19 v' (L1 ++ L2).length (catR (L1 ++ L2)) → w.grownBy w' v.ownBlock → wpList Try.prog ops Q rest (a.put o.dst v') w') : wpList Try.prog ops Q (o :: rest) a w := by
  refine wpList_plain hg fun K hK' => ?_
  obtain ⟨v', w', h1, h2, h3⟩ := run_app76 hown hsrc hlen hb o.type
  unfold Oper.wp
  have hr : (execOp a.eval o).run Try.prog w = .ok (.value v') w' := by
    simp [execOp, ho, resolve, invoke, builtin, hx, hy, h1, Result.andThen]
  rw [hr, Oper.upon_value]
  exact hK' _ _ (hK v' w' h2 h3)
section
variable {F : Fr} {ops : Array Oper} {S : St} {o : Oper}
theorem el49 : Try.prog.underlying 49 = some (.slice (Try.prog.elem 49)) := by kernel_rfl
theorem el49' : Try.prog.elem 49 = 76 := by kernel_rfl
theorem o_sliceH (hw : want ops S o = some true) {x h : Operand} (ho : o.op = .slice 49 x none (some h) none) {ad : Option Addr} {len cap j : Nat} (hx : S.av x = some (.v (.slice ad len cap))) (hi : S.av h = some (.v (.int .i64 (j : Nat)))) (hj : j ≤ cap) :
    OpOK Try.prog F ops o S { val := .v (sliced ad 0 j cap 19) } :=
  ok_value hw fun ρ a w h1 _ _ => by
    have e1 : a.eval x = .slice ad len cap := h1 x (by simp [ho, Op.operands]) _ hx
    have e2 : a.eval h = .int .i64 (j : Nat) := h1 h (by simp [ho, Op.operands]) _ hi
    have := run_slice_h (P := Try.prog) (w := w) 49 ad len cap el49 .i64 (j : Nat) (by omega) (by omega)
    rw [el49', run_sizeOf' sz76] at this
    simp [execOp, ho, e1, e2, run_sliceAt_slice (P := Try.prog) (w := w) 49 _ _ _ _ el49, this, Result.andThen]
theorem o_sliceL (hw : want ops S o = some true) {x l : Operand} (ho : o.op = .slice 49 x (some l) none none) {ad : Option Addr} {len cap j : Nat} (hx : S.av x = some (.v (.slice ad len cap))) (hi : S.av l = some (.v (.int .i64 (j : Nat)))) (hj : j ≤ len) :
    OpOK Try.prog F ops o S { val := .v (sliced ad j len cap 19) } :=
  ok_value hw fun ρ a w h1 _ _ => by
    have e1 : a.eval x = .slice ad len cap := h1 x (by simp [ho, Op.operands]) _ hx
    have e2 : a.eval l = .int .i64 (j : Nat) := h1 l (by simp [ho, Op.operands]) _ hi
    have := run_slice_l (P := Try.prog) (w := w) 49 ad len cap el49 .i64 (j : Nat) (by omega) (by omega)
    rw [el49', run_sizeOf' sz76] at this
    simp [execOp, ho, e1, e2, run_sliceAt_slice (P := Try.prog) (w := w) 49 _ _ _ _ el49, this, Result.andThen]
end
/-- from here on: something said of the old memory that may be written -/
def ρA (i r : Nat) (f : Nat → Prop) : Pl := ⟨fun _ => r, fun j n => j = i ∧ f n⟩
theorem Rep.of_actA {N : Nat} {a : Act} {D : List Deferred} (w : World) (hD : a.defers = D) (hN : a.tmps.size = N) (i r : Nat) (f : Nat → Prop) (A : Ext) (hA : A.holds r f (hp w)) (sl : List (Nat × AV)) (hs : slotsOf a sl) :
    Rep N ⟨sl, [(i, .ext A)]⟩ (ρA i r f) { W := w, M := f, D := D } a w := by
  have hblk : ∀ k e, St.blk ⟨sl, [(i, .ext A)]⟩ k = some e → k = i ∧ e = .ext A := fun k e hk => by
    have := lookup_mem (show List.lookup k [(i, Blk.ext A)] = some e from hk)
    simp only [List.mem_cons, List.not_mem_nil, or_false, Prod.mk.injEq] at this
    exact this
  refine ⟨hD, hN, fun k av hk => ?_, fun k e hk => ?_, fun k e hk n hn => ?_, fun j k e e' n hj hk hn hn' => ?_, fun k av j hk hj => ?_, Keeps.refl _⟩
  · obtain ⟨x, hx, h1⟩ := slotsOf_mem hs _ (lookup_mem hk)
    simp only at hx
    subst hx
    exact h1
  · obtain ⟨rfl, rfl⟩ := hblk k e hk
    have e2 : (ρA k r f).foot k = f := by funext n; simp [ρA]
    show A.holds r ((ρA k r f).foot k) (hp w)
    rw [e2]
    exact hA
  · exact .inr hn.2
  · exact (hblk j e hj).1.trans (hblk k e' hk).1.symm
  · obtain ⟨x, hx, h1⟩ := slotsOf_mem hs _ (lookup_mem hk)
    simp only at hx
    subst hx
    cases hj
def oneH (g : Nat) (o : Obj) : Hp := fun n => if n = g then some o else none
theorem oneH_same (g : Nat) (o : Obj) : oneH g o g = some o := by simp [oneH]
theorem oneH_dom {g n : Nat} {o : Obj} : oneH g o n ≠ none ↔ n = g := by
  unfold oneH
  split <;> simp_all
theorem oneH_set (g : Nat) (o o' : Obj) : (oneH g o).set g o' = oneH g o' := by
  funext n
  simp only [Hp.set, oneH]
  split <;> rfl
theorem oneH_holds {w : World} {g : Nat} {o : Obj} (h : w.heap[g]? = some o) : (heapA (oneH g o)).holds 0 (fun n => oneH g o n ≠ none) (hp w) :=
  ⟨rfl, fun n o' hn => by
    have e : n = g := oneH_dom.1 (by rw [hn]; exact fun h => by cases h)
    subst e
    rw [oneH_same] at hn
    cases hn
    exact h⟩
theorem Keeps.chain {w w1 w2 : World} {f f1 : Nat → Prop} (h : Below w.heap.size w w1) (k : Keeps { W := w1, M := f1 } w2) (hf : ∀ n, f1 n → f n ∨ w.heap.size ≤ n) : Keeps { W := w, M := f } w2 :=
  ⟨k.os.trans h.os, k.tape.trans h.tape, k.output.trans h.output, Nat.le_trans h.size k.size, fun n hn hM => by
    have h1 := h.size
    have hlt : n < w1.heap.size := Nat.lt_of_lt_of_le hn h1
    have := k.block n hlt (fun t => (hf n t).elim hM (fun t => absurd (show n < w.heap.size from hn) (by omega)))
    exact this.trans (h.block n hn)⟩
/-- one operation that makes no block: the numbers stay -/
theorem wpl_stepN {P : Program} {F : Fr} {ops : Array Oper} {S : St} {o : Oper} {rest : List Oper} {N : Nat} {ρ : Pl} {a : Act} {w : World} {Q : Exit → Act → World → Prop} {e : Eff} (h : Rep N S ρ F a w) (hnew : e.new = none) (hop : OpOK P F ops o S e)
    (h1 : dstB N o = true) (h2 : freshB S e = true) (h3 : wroteB S e = true) (h4 : idB S e = true)
    (hR : ∀ ρ' a' w', (∀ i, Pl.num ρ' i = Pl.num ρ i) → Rep N (S.step o.dst e) ρ' F a' w' → wpList P ops Q rest a' w') : wpList P ops Q (o :: rest) a w :=
  wpList_step fun K hK => hop ρ a w Q K (fun k _ av hk => h.slots k av hk) (fun i _ b hb => h.mem i b hb) h.keeps (fun v w' n ho => hK _ _ (hR _ _ _ (fun i => by simp [upd, hnew]) (h.stepB h1 h2 h3 h4 ho)))
theorem row_below {w w' : World} {base : Nat} {e : TypeId} {size : Nat} {v : Value} {n : Nat} {xs : List Value} (h : w.ownsRow base e size v n xs) (hb : Below w.heap.size w w') : w'.ownsRow base e size v n xs := row_turn h (Turn.of_below (B := 0) hb)
theorem below_obj {w w' : World} (h : Below w.heap.size w w') {k : Nat} {o : Obj} (hk : w.heap[k]? = some o) : w'.heap[k]? = some o := (h.block k (lt_of_heap hk)).trans hk
theorem below_grown {w w1 w2 : World} {row : Option Nat} (h : Below w.heap.size w w1) (hg : w1.grownBy w2 row) (hr : ∀ k, some k = row → w.heap.size ≤ k) : Below w.heap.size w w2 :=
  ⟨hg.os.trans h.os, hg.tape.trans h.tape, hg.output.trans h.output, Nat.le_trans h.size hg.size, fun k hk => by
    have h1 := h.size
    exact (hg.block k (by omega) (fun e => absurd (hr k e) (by omega))).trans (h.block k hk)⟩
theorem grown_obj {w w' : World} {row : Option Nat} (hg : w.grownBy w' row) {k : Nat} {o : Obj} (hk : w.heap[k]? = some o) (hne : some k ≠ row) : w'.heap[k]? = some o := (hg.block k (lt_of_heap hk) hne).trans hk
/-- the owner of a row turned -/
theorem rwc_set (x : RowR) (o : Int) : (rwc x).toList.set 18 (.int .i64 o) = (rwc { x with o := o }).toList := rfl
theorem catR_set {L : List RowR} {k : Nat} {y q : RowR} (hy : L[k]? = some y) (hq : { y with o := q.o } = q) : (catR L).set (k * 19 + 18) (.int .i64 q.o) = catR (L.take k ++ q :: L.drop (k + 1)) := by
  have hspl := split_at hy
  have hk := (List.getElem?_eq_some_iff.1 hy).1
  have hl : (catR (L.take k)).length = k * 19 := by rw [len_catR, List.length_take, Nat.min_eq_left (by omega)]
  have hr : (rwc y).toList.length = 19 := rfl
  have e1 : catR L = catR (L.take k) ++ ((rwc y).toList ++ catR (L.drop (k + 1))) := by
    have := congrArg catR hspl
    rw [catR_append, catR] at this
    exact this
  rw [e1, List.set_append_right _ _ (by rw [hl]; omega), hl, show k * 19 + 18 - k * 19 = 18 by omega, List.set_append_left _ _ (by rw [hr]; decide), rwc_set, hq, catR_append, catR]
theorem row_set {w w' : World} {B g cap : Nat} {L : List RowR} (h : w.ownsRow B 76 19 (.slice (some ⟨g, 0, none⟩) L.length cap) L.length (catR L)) {cur : Array Value} (hc : w.heap[g]? = some (cobj cur 76)) {k : Nat} {y q : RowR} (hy : L[k]? = some y) (hq : { y with o := q.o } = q)
    (hg : w'.heap[g]? = some (cobj (cur.setIfInBounds (k * 19 + 18) (.int .i64 q.o)) 76)) : w'.ownsRow B 76 19 (.slice (some ⟨g, 0, none⟩) L.length cap) (L.take k ++ q :: L.drop (k + 1)).length (catR (L.take k ++ q :: L.drop (k + 1))) := by
  have hspl := split_at hy
  have hlen : (L.take k ++ q :: L.drop (k + 1)).length = L.length := by
    have : L.length = (L.take k ++ y :: L.drop (k + 1)).length := congrArg List.length hspl
    rw [this]; simp
  rcases h.2 with ⟨h', _⟩ | ⟨g', cap', cur', h', hb, hg', hnc, hcm, hcs, htake⟩
  · simp at h'
  · simp only [Value.slice.injEq, Option.some.injEq, Addr.mk.injEq, and_true, true_and] at h'
    obtain ⟨rfl, rfl⟩ := h'
    rw [hc] at hg'
    have hcc : cur = cur' := by simpa [cobj] using hg'
    subst hcc
    refine ⟨len_catR _, .inr ⟨g, cap, _, by rw [hlen], hb, hg, by rw [hlen]; exact hnc, hcm, by simpa using hcs, ?_⟩⟩
    rw [hlen, Array.toList_setIfInBounds, ← catR_set hy hq, ← htake, List.take_set]
/-- where Put puts: it is somewhere -/
theorem spot_ex (L : List RowR) (q : RowR) : ∃ k, Spot L q k := by
  induction L with
  | nil => exact ⟨0, by simp, fun j x h => by omega, fun x h => by simp at h⟩
  | cons a L ih =>
    by_cases h : ahead a q
    · obtain ⟨k, h1, h2, h3⟩ := ih
      refine ⟨k + 1, by simpa using h1, fun j x hj hx => ?_, fun x hx => h3 x (by simpa using hx)⟩
      cases j with
      | zero =>
        have : a = x := by simpa using hx
        rw [← this]
        exact h
      | succ j => exact h2 j x (by omega) (by simpa using hx)
    · exact ⟨0, Nat.zero_le _, fun j x hj => by omega, fun x hx => by
        have : a = x := by simpa using hx
        rw [← this]
        exact h⟩
end Go.Proofs.Ytnppgaohfegloaa
