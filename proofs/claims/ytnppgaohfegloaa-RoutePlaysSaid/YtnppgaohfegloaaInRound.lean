/-
  Within a round of a range over a function: what is walked as everywhere; a region in any order, from an invariant.
-/
import Derived.Test.YtnppgaohfegloaaRange
import Derived.OrdersIn
import Derived.RangeFuncSeq
import Derived.RangeFuncCalls
import Derived.TacticsIn
namespace Go.Proofs.Ytnppgaohfegloaa
open Go.RowKit

/-- no fence but for the round -/
def FW (r : Option Nat) : Fence := { Fence.wide with round := r }
theorem FW_none : FW none = Fence.wide := rfl
theorem FW_some (l : Nat) : FW (some l) = Fence.wide.inRound l := rfl
theorem rows_in {P : Program} {r : Option Nat} {row : String} {args : Array Value} {w : World} {R : Value → World → Prop} (h : Rows P row args w R) : RowsIn (FW r) 0 P row args w R :=
  fun c cs _ => let ⟨v, w', h1, h2⟩ := h c cs; ⟨v, w', h1, stepsIn_wide.2 h2⟩
theorem calls_in {P : Program} {r : Option Nat} {f : FuncId} {args : Array Value} {w : World} {R : Ending → World → Prop} (h : Calls P f args w R) : CallsIn (FW r) 0 P f args w R :=
  (callsIn_wide (n := 0)).2 h
def noDef (o : Oper) : Bool := match o.op with | .defer _ => false | _ => true
theorem noDef_spec {o : Oper} (h : noDef o = true) (c : Call) : o.op ≠ .defer c := fun e => by
  unfold noDef at h
  rw [e] at h
  cases h
theorem oper_in {P : Program} {r : Option Nat} {o : Oper} {a : Act} {w : World} {K : Act → World → Prop} {Q : Exit → Act → World → Prop} (hd : noDef o = true) (h : o.wp P a w K Q) : o.wpIn (FW r) 0 P a w K Q := by
  refine ⟨fun f _ => trivial, ?_⟩
  rw [Oper.semAt_eq _ _ _ (noDef_spec hd)]
  unfold Oper.wp at h
  generalize (execOp a.eval o).run P w = x at *
  cases x with
  | ok x w' =>
    cases x with
    | value v => exact h
    | skip => exact h
    | defer d => exact h
    | enter f args => exact ⟨(fun h => by cases h), calls_in h⟩
    | row row args => exact ⟨(fun h => by cases h), rows_in h⟩
    | round l f tmps assign body => exact h.elim
    | _ => exact h.elim
  | halt x w' => cases x <;> exact h
theorem wpOp_in {P : Program} {r : Option Nat} {ops : Array Oper} {Q : Exit → Act → World → Prop} {i : Nat} {K : Act → World → Prop} {a : Act} {w : World} (hno : ¬ LetsOut Q) (hd : ∀ o, ops[i]? = some o → noDef o = true) (h : wpOp P ops Q i K a w) : wpOpIn (FW r) 0 P ops Q i K a w := by
  unfold wpOp at h
  unfold wpOpIn
  cases ho : ops[i]? with
  | none => simpa [ho] using h
  | some o =>
    simp only [ho] at h ⊢
    split
    · rename_i hw
      rw [if_pos hw] at h
      exact oper_in (hd o ho) (h.resolve_right fun t => hno t.2)
    · rename_i hw
      rw [if_neg hw] at h
      exact ⟨fun _ _ => trivial, h⟩
theorem wpl_in {P : Program} {r : Option Nat} {ops : Array Oper} {Q : Exit → Act → World → Prop} (hno : ¬ LetsOut Q) : ∀ {l : List Oper} {a : Act} {w : World}, l.all noDef = true → wpList P ops Q l a w → wpListIn (FW r) 0 P ops Q l a w := by
  intro l
  induction l with
  | nil => exact fun _ h => h
  | cons o l ih =>
    intro a w hd h
    simp only [List.all_cons, Bool.and_eq_true] at hd
    unfold wpList at h
    unfold wpListIn
    split
    · rename_i hw
      rw [if_pos hw] at h
      exact Oper.wpIn_mono (fun a w h => ih hd.2 h) (oper_in hd.1 (h.resolve_right fun t => hno t.2))
    · rename_i hw
      rw [if_neg hw] at h
      exact ⟨fun _ _ => trivial, ih hd.2 h⟩
/-- ONE STEP AT A TIME, IN WHATEVER ORDER. -/
theorem region_inv {P : Program} {r : Option Nat} {id : Nat} {l : List Oper} {draw : Bool} {a : Act} {w : World} {Q : Exit → Act → World → Prop} (hm : P.follows .mixedOrders = true)
    (hpre : ∀ j o, l[j]? = some o → ∀ p ∈ preds o, p < j) (Inv : (Nat → Bool) → Act → World → Prop)
    (h0 : Inv (fun _ => false) a w) (hdrew : Inv (fun _ => false) a { w with drawn := w.drawn + 1 })
    (hstep : ∀ (done : Nat → Bool) (i : Nat) (o : Oper) (a : Act) (w : World) (K : Act → World → Prop), Closed l done → l[i]? = some o → done i = false → (∀ p ∈ preds o, done p = true) → Inv done a w →
      (∀ (done' : Nat → Bool) a' w', (∀ j, done' j = if j = i then true else done j) → Inv done' a' w' → K a' w') → wpOpIn (FW r) 0 P l.toArray Q i K a w)
    (hfin : ∀ (done : Nat → Bool) a w, (∀ j, j < l.length → done j = true) → Inv done a w → Q .normal a w) : (Code.region id l.toArray draw).wpIn (FW r) 0 P Q a w := by
  cases draw with
  | false =>
    refine wpIn_region ?_
    have key : ∀ (m k : Nat) (done : Nat → Bool) a' w', k + m = l.length → (∀ j, done j = lexBefore k j) → Inv done a' w' → wpOpsIn (FW r) 0 P l.toArray Q (List.range' k m) a' w' := by
      intro m
      induction m with
      | zero =>
        intro k done a' w' hk hd hI
        simp only [List.range'_zero, wpOpsIn]
        exact hfin _ _ _ (fun j hj => by rw [hd]; simp [lexBefore]; omega) hI
      | succ m ih =>
        intro k done a' w' hk hd hI
        rw [List.range'_succ, wpOpsIn_cons]
        have hlt : k < l.length := by omega
        have ho : l[k]? = some l[k] := List.getElem?_eq_getElem hlt
        refine hstep done k _ a' w' _ ?_ ho (by rw [hd]; simp [lexBefore]) ?_ hI fun done' a'' w'' hd' hI' => ih (k + 1) done' a'' w'' (by omega) ?_ hI'
        · intro j oj hoj hj p hp
          have := hpre j oj hoj p hp
          rw [hd] at hj ⊢
          simp [lexBefore] at *
          omega
        · intro p hp
          have := hpre k _ ho p hp
          rw [hd]
          simpa [lexBefore] using this
        · intro j
          rw [hd' j, hd j]
          by_cases e : j = k
          · simp [e, lexBefore]
          · rw [if_neg e]
            simp [lexBefore]
            omega
    have := key l.length 0 (fun _ => false) a w (by omega) (fun j => by simp [lexBefore]) h0
    simpa [List.range_eq_range'] using this
  | true =>
    refine wpIn_region_any hm ?_
    have key : ∀ (fuel : Nat) (listed : Array Bool) (a' : Act) (w' : World), listed.size = l.length → ((List.range l.length).countP fun j => !listed.getD j false) ≤ fuel →
        Closed l (fun j => listed.getD j false) → Inv (fun j => listed.getD j false) a' w' → wpAnyIn (FW r) 0 P .any l.toArray Q fuel listed a' w' := by
      intro fuel
      induction fuel with
      | zero =>
        intro listed a' w' hsz hcount hcl hI
        have hall : ∀ j, j < l.length → listed.getD j false = true := by
          intro j hj
          have h0 : (List.range l.length).countP (fun j => !listed.getD j false) = 0 := Nat.le_zero.1 hcount
          have := List.countP_eq_zero.1 h0 j (List.mem_range.2 hj)
          simpa using this
        refine ⟨?_, hfin _ _ _ hall hI⟩
        rw [List.eq_nil_iff_forall_not_mem]
        intro j hj
        rw [mem_ready] at hj
        obtain ⟨h0, o, ho, _⟩ := hj
        have hlt : j < l.length := by
          simp at ho; exact (List.getElem?_eq_some_iff.1 ho).1
        have h1 := hall j hlt
        have hjs : j < listed.size := by omega
        simp [hjs] at h0 h1
        rw [h0] at h1; cases h1
      | succ fuel ih =>
        intro listed a' w' hsz hcount hcl hI
        refine ⟨fun hnil => ?_, fun i hi => ?_⟩
        · refine hfin (fun j => listed.getD j false) _ _ ?_ hI
          intro j
          induction j using Nat.strongRecOn with
          | _ j ihj =>
            intro hj
            cases hlj : listed.getD j false with
            | true => rfl
            | false =>
              exfalso
              have hmem : j ∈ Region.ready .any l.toArray listed := by
                rw [mem_ready]
                have hjs : j < listed.size := by omega
                refine ⟨by simp [hjs] at hlj ⊢; exact hlj, l[j], by simp [hj], fun e he hb => ?_⟩
                have hp : e.on ∈ preds l[j] := List.mem_map.2 ⟨e, List.mem_filter.2 ⟨by simpa using he, hb⟩, rfl⟩
                have hlt := hpre j _ (List.getElem?_eq_getElem hj) _ hp
                exact ihj _ hlt (by omega)
              rw [hnil] at hmem; cases hmem
        · rw [mem_ready] at hi
          obtain ⟨h0, o, ho, hprd⟩ := hi
          simp only [List.getElem?_toArray] at ho
          have hlt : i < l.length := (List.getElem?_eq_some_iff.1 ho).1
          have his : i < listed.size := by omega
          have hnd : listed.getD i false = false := by simp [his] at h0 ⊢; exact h0
          have hpr : ∀ p ∈ preds o, listed.getD p false = true := by
            intro p hp
            obtain ⟨ed, hed, rfl⟩ := List.mem_map.1 hp
            obtain ⟨hmem, hb⟩ := List.mem_filter.1 hed
            exact hprd ed (by simpa using hmem) hb
          have hd' : ∀ j, (listed.setIfInBounds i true).getD j false = if j = i then true else listed.getD j false := by
            intro j
            by_cases hji : j = i
            · subst hji; simp [his]
            · rw [if_neg hji, getD_set_ne false (fun t => hji t.symm)]
          refine hstep (fun j => listed.getD j false) i o a' w' _ hcl ho hnd hpr hI fun done' a'' w'' hdd hI' => ?_
          have hdd' : done' = fun j => (listed.setIfInBounds i true).getD j false := by
            funext j
            rw [hdd, hd']
          rw [hdd'] at hI'
          refine ih _ _ _ (by simpa using hsz) ?_ ?_ hI'
          · have hlt' : (List.range l.length).countP (fun j => !(listed.setIfInBounds i true).getD j false) < (List.range l.length).countP (fun j => !listed.getD j false) := by
              have hsub : ∀ (r : List Nat), i ∈ r → (r.countP fun j => !(listed.setIfInBounds i true).getD j false) < r.countP fun j => !listed.getD j false := by
                intro r
                have hle : ∀ r : List Nat, (r.countP fun j => !(listed.setIfInBounds i true).getD j false) ≤ r.countP fun j => !listed.getD j false := by
                  intro r
                  refine List.countP_mono_left fun j _ hj => ?_
                  rw [hd' j] at hj
                  by_cases hji : j = i
                  · simp [hji] at hj
                  · simpa [hji] using hj
                induction r with
                | nil => intro h; cases h
                | cons x r ihr =>
                  intro hmem
                  rw [List.countP_cons, List.countP_cons]
                  by_cases hxi : x = i
                  · have e1 : (!(listed.setIfInBounds i true).getD x false) = false := by rw [hd' x, if_pos hxi]; rfl
                    have e2 : (!listed.getD x false) = true := by rw [hxi, hnd]; rfl
                    rw [e1, e2]
                    have := hle r
                    simp only [Bool.false_eq_true, if_false, if_true]
                    omega
                  · have e1 : (!(listed.setIfInBounds i true).getD x false) = (!listed.getD x false) := by rw [hd' x, if_neg hxi]
                    rw [e1]
                    have := ihr ((List.mem_cons.1 hmem).resolve_left (fun t => hxi t.symm))
                    omega
              exact hsub _ (List.mem_range.2 hlt)
            omega
          · intro j oj hoj hj p hp
            simp only [hd'] at hj ⊢
            by_cases hji : j = i
            · subst hji
              rw [ho] at hoj; cases hoj
              have := hpr p hp
              by_cases hpi : p = j
              · simp [hpi]
              · rw [if_neg hpi]; exact this
            · rw [if_neg hji] at hj
              have := hcl j oj hoj hj p hp
              by_cases hpi : p = i
              · simp [hpi]
              · rw [if_neg hpi]; exact this
    have hgd : (fun j => (Array.replicate l.toArray.size false).getD j false) = fun _ => false := by
      funext j
      rw [Array.getD_eq_getD_getElem?, Array.getElem?_replicate]
      split <;> rfl
    refine key _ _ a { w with drawn := w.drawn + 1 } (by simp) ?_ ?_ ?_
    · refine Nat.le_trans List.countP_le_length (by simp)
    · intro j oj hoj hj
      have := congrFun hgd j
      exact absurd (this.symm.trans hj) (by decide)
    · rw [hgd]; exact hdrew
theorem isAt_nil (S : St) (l : List Oper) (es : List Eff) (done : Nat → Bool) (hd : ∀ j, done j = false) : IsAt S l es done S := by
  refine ⟨fun k => ?_, fun b => ?_⟩
  · unfold slotD; cases writer l k <;> simp [hd]
  · unfold blkD baseD; cases wrOf es b <;> cases newOf es b <;> simp [hd]
theorem isAt_full {S T U : St} {l : List Oper} {es : List Eff} (hlen : l.length = es.length) {done done' : Nat → Bool} (hd : ∀ j, j < l.length → done j = done' j) (hT : IsAt S l es done T) (hU : IsAt S l es done' U) : (∀ k, U.slot k = T.slot k) ∧ ∀ b, U.blk b = T.blk b := by
  have hb : ∀ b, baseD S es done b = baseD S es done' b := by
    intro b
    unfold baseD
    cases hn : newOf es b with
    | none => rfl
    | some j =>
      obtain ⟨e, x, he, _, _⟩ := newOf_spec hn
      have := (List.getElem?_eq_some_iff.1 he).1
      simp [hd j (by omega)]
  refine ⟨fun k => ?_, fun b => ?_⟩
  · rw [hT.slot, hU.slot]
    unfold slotD
    cases hw : writer l k with
    | none => rfl
    | some j =>
      obtain ⟨o, ho, _⟩ := writer_spec hw
      have := (List.getElem?_eq_some_iff.1 ho).1
      simp [hd j this]
  · rw [hT.blk, hU.blk]
    unfold blkD
    rw [hb b]
    cases hn : wrOf es b with
    | none => rfl
    | some j =>
      obtain ⟨e, x, he, _, _⟩ := wrOf_spec hn
      have := (List.getElem?_eq_some_iff.1 he).1
      simp [hd j (by omega)]
theorem preds_lt {N : Nat} {S : St} {l : List Oper} {es : List Eff} (hck : check N S l es = true) (j : Nat) (o : Oper) (ho : l[j]? = some o) : ∀ p ∈ preds o, p < j := fun p hp => by
  obtain ⟨e', _, hc⟩ := check_at hck ho
  simp only [checkAt, Bool.and_eq_true] at hc
  simpa using List.all_eq_true.1 hc.1.1.1.1.1.1 p hp
theorem Rep.drew {N : Nat} {S : St} {ρ : Pl} {F : Fr} {a : Act} {w : World} (h : Rep N S ρ F a w) : Rep N S ρ F a { w with drawn := w.drawn + 1 } :=
  ⟨h.defers, h.size, h.slots, h.mem, h.own, h.inj, h.live, ⟨h.keeps.os, h.keeps.tape, h.keeps.output, h.keeps.size, h.keeps.block⟩⟩
/-- A REGION IN A ROUND. -/
theorem region_round {P : Program} {r : Option Nat} {id : Nat} {l : List Oper} {draw : Bool} {N : Nat} {S : St} {ρ : Pl} {F : Fr} {a : Act} {w : World} {Q : Exit → Act → World → Prop} {es : List Eff}
    (hm : P.follows .mixedOrders = true) (hno : ¬ LetsOut Q) (hrep : Rep N S ρ F a w) (hnd : l.all noDef = true) (hw : Walk P F l.toArray S l es) (hck : check N S l es = true)
    (hQ : ∀ ρ' a' w', (∀ i b, S.blk i = some b → ρ' i = ρ i) → Rep N (S.after l es) ρ' F a' w' → Q .normal a' w') : (Code.region id l.toArray draw).wpIn (FW r) 0 P Q a w := by
  have hlex0 : IsAt S l es (lexBefore 0) S := isAt_nil _ _ _ _ (fun j => by simp [lexBefore])
  obtain ⟨hat, hend⟩ := walk_at (P := P) (F := F) hck 0 S l es (by simp) (by simp) hlex0 hw
  simp only [Nat.zero_add] at hat hend
  refine region_inv hm (preds_lt hck) (fun done a w => ∃ T ρ', (∀ i b, S.blk i = some b → ρ' i = ρ i) ∧ IsAt S l es done T ∧ Rep N T ρ' F a w)
    ⟨S, ρ, fun _ _ _ => rfl, isAt_nil _ _ _ _ (fun _ => rfl), hrep⟩ ⟨S, ρ, fun _ _ _ => rfl, isAt_nil _ _ _ _ (fun _ => rfl), hrep.drew⟩ ?_ ?_
  · intro done i o a w K hcl ho hnd' hpr ⟨T, ρ', hag, hT, hr⟩ hK
    obtain ⟨e, he, hc⟩ := check_at hck ho
    obtain ⟨L, hL, hok⟩ := hat i o e ho he
    refine wpOp_in hno (fun o' ho' => ?_) (any_step hck hcl ho he hnd' hpr hL hT hok hr (done' := fun j => if j = i then true else done j) (fun j => rfl)
      (fun T' ρ'' a'' w'' hag' h1 h2 => hK _ a'' w'' (fun j => rfl) ⟨T', ρ'', fun j b hj => (hag' j b hj).trans (hag j b hj), h1, h2⟩))
    · simp only [List.getElem?_toArray] at ho'
      exact List.all_eq_true.1 hnd _ (List.mem_of_getElem? ho')
  · intro done a w hall ⟨T, ρ', hag, hT, hr⟩
    obtain ⟨h1, h2⟩ := isAt_full (check_len hck) (done := done) (done' := lexBefore l.length) (fun j hj => by rw [hall j hj]; simp [lexBefore, hj]) hT hend
    exact hQ ρ' a w hag (hr.of_look h1 h2)

/-! ### A region with one call that may do anything -/
theorem walk_part {P : Program} {F : Fr} {N : Nat} {S : St} {l : List Oper} {es : List Eff} (hck : check N S l es = true) :
    ∀ (k : Nat) (T : St) (l' : List Oper) (es' : List Eff), (∀ j, j < l'.length → l'[j]? = l[k + j]?) → (∀ j, j < l'.length → es'[j]? = es[k + j]?) → IsAt S l es (lexBefore k) T →
      Walk P F l.toArray T l' es' → (∀ j o e, l'[j]? = some o → es'[j]? = some e → ∃ T', IsAt S l es (lexBefore (k + j)) T' ∧ OpOK P F l.toArray o T' e) ∧
        IsAt S l es (lexBefore (k + l'.length)) (T.after l' es') := by
  intro k T l'
  induction l' generalizing k T with
  | nil =>
    intro es' _ _ hT _
    exact ⟨fun j o e h => by simp at h, by simpa [St.after] using hT⟩
  | cons o l' ih =>
    intro es' hl he hT hw
    cases es' with
    | nil => exact hw.elim
    | cons e es' =>
      obtain ⟨h0, h1⟩ := hw
      have ho : l[k]? = some o := by simpa using (hl 0 (by simp)).symm
      have hee : es[k]? = some e := by simpa using (he 0 (by simp)).symm
      obtain ⟨h2, h3⟩ := ih (k + 1) (T.step o.dst e) es' (fun j hj => by have := hl (j + 1) (by simpa using hj); simp at this; rw [this]; congr 1; omega)
        (fun j hj => by have := he (j + 1) (by simpa using hj); simp at this; rw [this]; congr 1; omega) (lex_step hck hT ho hee) h1
      refine ⟨fun j o' e' hj hj' => ?_, ?_⟩
      · cases j with
        | zero => simp at hj hj'; subst hj hj'; exact ⟨T, hT, h0⟩
        | succ j => obtain ⟨T', a, b⟩ := h2 j o' e' (by simpa using hj) (by simpa using hj'); exact ⟨T', by rw [show k + (j + 1) = k + 1 + j by omega]; exact a, b⟩
      · rw [show k + (o :: l').length = k + 1 + l'.length by simp; omega]; exact h3
def back (l : List Oper) : Nat → List Nat → List Nat
  | 0, M => M
  | j + 1, M => back l j (if M.contains j then match l[j]? with | some o => preds o ++ M | none => M else M)
theorem back_done {l : List Oper} {done : Nat → Bool} (hcl : Closed l done) : ∀ (j : Nat) (M : List Nat), (∀ m ∈ M, done m = true) → ∀ m ∈ back l j M, done m = true := by
  intro j
  induction j with
  | zero => exact fun M h => h
  | succ j ih =>
    intro M hM
    unfold back
    refine ih _ ?_
    split
    · rename_i hj
      have hdj := hM j (by simpa using hj)
      cases ho : l[j]? with
      | none => simpa [ho] using hM
      | some o =>
        intro m hm
        simp only [List.mem_append] at hm
        rcases hm with hm | hm
        · exact hcl j o ho hdj m hm
        · exact hM m hm
    · exact hM
def predsAt (l : List Oper) (i : Nat) : List Nat := match l[i]? with | some o => preds o | none => []
def pivB (l : List Oper) (k : Nat) : Bool :=
  ((List.range k).all fun j => (back l k (predsAt l k)).contains j) && ((List.range l.length).all fun j => decide (j ≤ k) || (back l j (predsAt l j)).contains k)
def stillB (es : List Eff) : Bool := es.all fun e => e.new.isNone && e.wr.isNone
theorem isAt_congr {S T : St} {l : List Oper} {es : List Eff} (hlen : l.length = es.length) {done done' : Nat → Bool} (hd : ∀ j, j < l.length → done j = done' j) (hT : IsAt S l es done T) : IsAt S l es done' T := by
  have hb : ∀ b, baseD S es done b = baseD S es done' b := by
    intro b
    unfold baseD
    cases hn : newOf es b with
    | none => rfl
    | some j =>
      obtain ⟨e, x, he, _, _⟩ := newOf_spec hn
      have := (List.getElem?_eq_some_iff.1 he).1
      simp [hd j (by omega)]
  refine ⟨fun k => ?_, fun b => ?_⟩
  · rw [hT.slot]
    unfold slotD
    cases hw : writer l k with
    | none => rfl
    | some j =>
      obtain ⟨o, ho, _⟩ := writer_spec hw
      have := (List.getElem?_eq_some_iff.1 ho).1
      simp [hd j this]
  · rw [hT.blk]
    unfold blkD
    rw [hb b]
    cases hn : wrOf es b with
    | none => rfl
    | some j =>
      obtain ⟨e, x, he, _, _⟩ := wrOf_spec hn
      have := (List.getElem?_eq_some_iff.1 he).1
      simp [hd j (by omega)]
theorem still_blk {S : St} {es : List Eff} (h : stillB es = true) (done : Nat → Bool) (b : Nat) : blkD S es done b = S.blk b := by
  have hn : newOf es b = none := by
    cases hn : newOf es b with
    | none => rfl
    | some j =>
      obtain ⟨e, x, he, hx, _⟩ := newOf_spec hn
      have := List.all_eq_true.1 h e (List.mem_of_getElem? he)
      simp [hx] at this
  have hw : wrOf es b = none := by
    cases hw : wrOf es b with
    | none => rfl
    | some j =>
      obtain ⟨e, x, he, hx, _⟩ := wrOf_spec hw
      have := List.all_eq_true.1 h e (List.mem_of_getElem? he)
      simp [hx] at this
  simp [blkD, baseD, hn, hw]
/-- what holds no block may be said of any world -/
theorem Rep.fresh {N : Nat} {S : St} {ρ : Pl} {F : Fr} {a : Act} {w : World} (h : Rep N S ρ F a w) (hb : ∀ i, S.blk i = none) (w1 : World) : Rep N S ρ { W := w1, D := F.D } a w1 :=
  ⟨h.defers, h.size, h.slots, (fun i b hi => by rw [hb i] at hi; cases hi), (fun i b hi => by rw [hb i] at hi; cases hi), (fun i j b c n hi => by rw [hb i] at hi; cases hi), h.live, Keeps.refl _⟩
def eY (b : Bool) : Eff := { val := .v (.bool b) }
theorem region_pivot {P : Program} {r : Option Nat} {id : Nat} {l : List Oper} {draw : Bool} {N : Nat} {S : St} {ρ : Pl} {D : List Deferred} {a : Act} {w : World} {Q : Exit → Act → World → Prop} (k : Nat) {y : Oper}
    {esA : List Eff} {esB : Bool → List Eff} (X : Bool → World → Prop)
    (hm : P.follows .mixedOrders = true) (hno : ¬ LetsOut Q) (hrep : Rep N S ρ { W := w, D := D } a w) (hmem : S.mem = []) (hnd : l.all noDef = true) (hy : l[k]? = some y) (hla : esA.length = k)
    (hwA : Walk P { W := w, D := D } l.toArray S (l.take k) esA)
    (hwB : ∀ b w1, Walk P { W := w1, D := D } l.toArray ((S.after (l.take k) esA).step y.dst (eY b)) (l.drop (k + 1)) (esB b))
    (hck : ∀ b, check N S l (esA ++ eY b :: esB b) = true) (hst : ∀ b, stillB (esA ++ eY b :: esB b) = true) (hpv : pivB l k = true)
    (hcall : ∀ ρ a' w' (K : Act → World → Prop), Rep N (S.after (l.take k) esA) ρ { W := w, D := D } a' w' → (∀ b w1, X b w1 → K (a'.put y.dst (.bool b)) w1) → wpOpIn (FW r) 0 P l.toArray Q k K a' w')
    (hQ : ∀ b w1 ρ' a' w', X b w1 → Rep N (((S.after (l.take k) esA).step y.dst (eY b)).after (l.drop (k + 1)) (esB b)) ρ' { W := w1, D := D } a' w' → Q .normal a' w') :
    (Code.region id l.toArray draw).wpIn (FW r) 0 P Q a w := by
  have hkl : k < l.length := (List.getElem?_eq_some_iff.1 hy).1
  have hS : ∀ i, S.blk i = none := fun i => by rw [St.blk, hmem]; rfl
  have htk : (l.take k).length = k := by rw [List.length_take]; omega
  have hgA : ∀ b j, j < k → esA[j]? = (esA ++ eY b :: esB b)[j]? := fun b j hj => (List.getElem?_append_left (by omega)).symm
  have hgY : ∀ b, (esA ++ eY b :: esB b)[k]? = some (eY b) := fun b => by rw [List.getElem?_append_right (by omega)]; simp [hla]
  have hgB : ∀ b j, (esB b)[j]? = (esA ++ eY b :: esB b)[k + 1 + j]? := fun b j => by
    rw [List.getElem?_append_right (by omega), show k + 1 + j - esA.length = j + 1 by omega]
    rfl
  have hA : ∀ b, (∀ j o e, (l.take k)[j]? = some o → esA[j]? = some e → ∃ T', IsAt S l (esA ++ eY b :: esB b) (lexBefore (0 + j)) T' ∧ OpOK P { W := w, D := D } l.toArray o T' e) ∧ IsAt S l (esA ++ eY b :: esB b) (lexBefore (0 + (l.take k).length)) (S.after (l.take k) esA) := fun b =>
    walk_part (hck b) 0 S (l.take k) esA (fun j hj => by rw [htk] at hj; rw [List.getElem?_take_of_lt hj]; simp) (fun j hj => by rw [htk] at hj; simpa using hgA b j hj) (isAt_nil _ _ _ _ (fun j => by simp [lexBefore])) hwA
  have hL : ∀ b, IsAt S l (esA ++ eY b :: esB b) (lexBefore k) (S.after (l.take k) esA) := fun b => by have := (hA b).2; rwa [htk, Nat.zero_add] at this
  have hL1 : ∀ b, IsAt S l (esA ++ eY b :: esB b) (lexBefore (k + 1)) ((S.after (l.take k) esA).step y.dst (eY b)) := fun b => lex_step (hck b) (hL b) hy (hgY b)
  have hB : ∀ b w1, (∀ j o e, (l.drop (k + 1))[j]? = some o → (esB b)[j]? = some e → ∃ T', IsAt S l (esA ++ eY b :: esB b) (lexBefore (k + 1 + j)) T' ∧ OpOK P { W := w1, D := D } l.toArray o T' e) ∧ IsAt S l (esA ++ eY b :: esB b) (lexBefore (k + 1 + (l.drop (k + 1)).length)) (((S.after (l.take k) esA).step y.dst (eY b)).after (l.drop (k + 1)) (esB b)) := fun b w1 =>
    walk_part (hck b) (k + 1) _ (l.drop (k + 1)) (esB b) (fun j _ => by rw [List.getElem?_drop]) (fun j _ => hgB b j) (hL1 b) (hwB b w1)
  simp only [pivB, Bool.and_eq_true] at hpv
  have hbefore : ∀ (done : Nat → Bool), Closed l done → (∀ p ∈ preds y, done p = true) → ∀ j, j < k → done j = true := fun done hcl hp j hj => by
    have h1 := List.all_eq_true.1 hpv.1 j (List.mem_range.2 hj)
    refine back_done hcl k (predsAt l k) (fun m hm => hp m ?_) j (by simpa using h1)
    simpa [predsAt, hy] using hm
  have hafter : ∀ (done : Nat → Bool), Closed l done → ∀ j o, k < j → l[j]? = some o → (∀ p ∈ preds o, done p = true) → done k = true := fun done hcl j o hj ho hp => by
    have hlt : j < l.length := (List.getElem?_eq_some_iff.1 ho).1
    have h1 := List.all_eq_true.1 hpv.2 j (List.mem_range.2 hlt)
    simp only [Bool.or_eq_true, decide_eq_true_eq] at h1
    refine back_done hcl j (predsAt l j) (fun m hm => hp m ?_) k (by simpa using h1.resolve_left (by omega))
    simpa [predsAt, ho] using hm
  refine region_inv hm (preds_lt (hck true)) (fun done a' w' => (done k = false ∧ ∃ T ρ', IsAt S l (esA ++ eY true :: esB true) done T ∧ Rep N T ρ' { W := w, D := D } a' w') ∨
      (done k = true ∧ ∃ b w1 T ρ', X b w1 ∧ IsAt S l (esA ++ eY b :: esB b) done T ∧ Rep N T ρ' { W := w1, D := D } a' w'))
    (.inl ⟨rfl, S, ρ, isAt_nil _ _ _ _ (fun _ => rfl), hrep⟩) (.inl ⟨rfl, S, ρ, isAt_nil _ _ _ _ (fun _ => rfl), hrep.drew⟩) ?_ ?_
  · intro done i o a' w' K hcl ho hdi hpr hI hK
    have hndo : ∀ o', l.toArray[i]? = some o' → noDef o' = true := fun o' ho' => by
      simp only [List.getElem?_toArray] at ho'
      exact List.all_eq_true.1 hnd _ (List.mem_of_getElem? ho')
    rcases hI with ⟨hdk, T, ρ', hT, hr⟩ | ⟨hdk, b, w1, T, ρ', hX, hT, hr⟩
    · rcases Nat.lt_trichotomy i k with hik | hik | hik
      · obtain ⟨e, he, _⟩ := check_at (hck true) ho
        obtain ⟨L, hL', hok⟩ := (hA true).1 i o e (by rw [List.getElem?_take_of_lt hik]; exact ho) (by rw [hgA true i hik]; exact he)
        rw [Nat.zero_add] at hL'
        refine wpOp_in hno hndo (any_step (hck true) hcl ho he hdi hpr hL' hT hok hr (done' := fun j => if j = i then true else done j) (fun j => rfl)
          (fun T' ρ'' a'' w'' _ h1 h2 => hK _ a'' w'' (fun j => rfl) (.inl ⟨by rw [if_neg (by omega)]; exact hdk, T', ρ'', h1, h2⟩)))
      · subst hik
        rw [hy] at ho
        cases ho
        have hall := hbefore done hcl hpr
        have hdone : ∀ j, j < l.length → lexBefore i j = done j := fun j hj => by
          rcases Nat.lt_trichotomy j i with h1 | h1 | h1
          · rw [hall j h1]; simp [lexBefore, h1]
          · rw [h1, hdk]; simp [lexBefore]
          · cases hdj : done j with
            | true =>
              have := hafter done hcl j l[j] h1 (List.getElem?_eq_getElem hj) (hcl j _ (List.getElem?_eq_getElem hj) hdj)
              rw [hdk] at this
              cases this
            | false => simp [lexBefore]; omega
        obtain ⟨h1, h2⟩ := isAt_full (check_len (hck true)) hdone (hL true) hT
        have hr' : Rep N (S.after (l.take i) esA) ρ' { W := w, D := D } a' w' := hr.of_look (fun k => (h1 k).symm) (fun b => (h2 b).symm)
        refine hcall ρ' a' w' K hr' fun b w1 hX => ?_
        refine hK (fun j => if j = i then true else done j) _ _ (fun j => rfl) (.inr ⟨by simp, b, w1, (S.after (l.take i) esA).step y.dst (eY b), upd ρ' (eY b) ⟨0, fun _ => False, fun _ => False⟩, hX, ?_, ?_⟩)
        · refine isAt_congr (check_len (hck b)) (done := lexBefore (i + 1)) (fun j hj => ?_) (hL1 b)
          have := hdone j hj
          by_cases hji : j = i
          · simp [hji, lexBefore]
          · rw [if_neg hji, ← this]
            simp [lexBefore]
            omega
        · have hbn : ∀ j, (S.after (l.take i) esA).blk j = none := fun j => by rw [(hL b).blk, still_blk (hst b), hS]
          have hr1 := hr'.fresh hbn w1
          have hdst : ∀ d, y.dst = some d → d < N := by
            intro d hd
            obtain ⟨e', he', hc⟩ := check_at (hck b) hy
            simp only [checkAt, Bool.and_eq_true] at hc
            have := hc.1.1.1.1.1.2
            simp only [hd, Bool.and_eq_true, decide_eq_true_eq] at this
            exact this.1
          exact hr1.step hdst (fun x hx => by cases hx) (fun x hx => by cases hx) (fun i hi => by cases hi)
            ⟨rfl, rfl, rfl, rfl, Nat.le_refl _, (fun _ _ _ => rfl), (fun y hy => by cases hy), (fun y hy => by cases hy), (fun y z hy => by cases hy)⟩
      · have := hafter done hcl i o hik ho hpr
        rw [hdk] at this
        cases this
    · rcases Nat.lt_trichotomy i k with hik | hik | hik
      · have := hbefore done hcl (hcl k y hy hdk) i hik
        rw [hdi] at this
        cases this
      · rw [hik, hdk] at hdi
        cases hdi
      · obtain ⟨e, he, _⟩ := check_at (hck b) ho
        obtain ⟨L, hL', hok⟩ := (hB b w1).1 (i - (k + 1)) o e (by rw [List.getElem?_drop, show k + 1 + (i - (k + 1)) = i by omega]; exact ho) (by rw [hgB b, show k + 1 + (i - (k + 1)) = i by omega]; exact he)
        rw [show k + 1 + (i - (k + 1)) = i by omega] at hL'
        refine wpOp_in hno hndo (any_step (hck b) hcl ho he hdi hpr hL' hT hok hr (done' := fun j => if j = i then true else done j) (fun j => rfl)
          (fun T' ρ'' a'' w'' _ h1 h2 => hK _ a'' w'' (fun j => rfl) (.inr ⟨by rw [if_neg (by omega)]; exact hdk, b, w1, T', ρ'', hX, h1, h2⟩)))
  · intro done a' w' hall hI
    rcases hI with ⟨hdk, _⟩ | ⟨_, b, w1, T, ρ', hX, hT, hr⟩
    · rw [hall k hkl] at hdk
      cases hdk
    · have hend := (hB b w1).2
      obtain ⟨h1, h2⟩ := isAt_full (check_len (hck b)) (done := done) (done' := lexBefore (k + 1 + (l.drop (k + 1)).length)) (fun j hj => by rw [hall j hj]; simp [lexBefore]; omega) hT hend
      exact hQ b w1 ρ' a' w' hX (hr.of_look h1 h2)
end Go.Proofs.Ytnppgaohfegloaa
