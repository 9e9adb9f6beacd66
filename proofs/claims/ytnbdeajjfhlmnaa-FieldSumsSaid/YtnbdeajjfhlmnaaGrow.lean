/-
  Regions met in the text's order whose effects are known only as they happen: a slice that grows, a call that hands back a slice of a room that nobody knows.
-/
import Derived.Test.YtnbdeajjfhlmnaaRefs
import Derived.Laws.Append
namespace Go.Proofs.Ytnbdeajjfhlmnaa
open Go.RowKit

section
variable {P : Program} {F : Fr} {ops : Array Oper} {S : St} {o : Oper} {rest : List Oper} {N : Nat} {ρ : Nat → Nat} {a : Act} {w : World} {Q : Exit → Act → World → Prop}
def freshB (S : St) (e : Eff) : Bool := match e.new with | some x => (S.blk x.1).isNone | none => true
def wroteB (S : St) (e : Eff) : Bool := match e.wr with | some x => (S.blk x.1).isSome | none => true
def idB (S : St) (e : Eff) : Bool := match e.val.id? with | some i => (S.blk i).isSome || (match e.new with | some x => x.1 == i | none => false) | none => true
def dstB (N : Nat) (o : Oper) : Bool := match o.dst with | some d => decide (d < N) | none => true
theorem Rep.stepB {o : Oper} {e : Eff} (h : Rep N S ρ F a w) (h1 : dstB N o = true) (h2 : freshB S e = true) (h3 : wroteB S e = true) (h4 : idB S e = true) {v : Value} {w' : World} {n : Nat} (ho : Out ρ e w v w' n) :
    Rep N (S.step o.dst e) (upd ρ e n) F (a.put o.dst v) w' := by
  refine h.step ?_ ?_ ?_ ?_ ho
  · intro d hd
    simpa [dstB, hd] using h1
  · intro x hx
    simpa [freshB, hx] using h2
  · intro x hx
    exact Option.isSome_iff_exists.1 (by simpa [wroteB, hx] using h3)
  · intro i hi
    simp only [idB, hi, Bool.or_eq_true] at h4
    rcases h4 with h4 | h4
    · exact .inl (Option.isSome_iff_exists.1 h4)
    · cases hn : e.new with
      | none => rw [hn] at h4; cases h4
      | some x =>
        rw [hn] at h4
        obtain ⟨i', b⟩ := x
        have : i' = i := by simpa using h4
        subst this
        exact .inr ⟨b, rfl⟩
/-- one operation, told ahead -/
theorem wpl_step {e : Eff} (h : Rep N S ρ F a w) (hg : o.guard = none) (hop : OpOK P F ops o S e) (h1 : dstB N o = true) (h2 : freshB S e = true) (h3 : wroteB S e = true) (h4 : idB S e = true)
    (hR : ∀ ρ' a' w', Rep N (S.step o.dst e) ρ' F a' w' → wpList P ops Q rest a' w') : wpList P ops Q (o :: rest) a w := by
  refine wpList_plain hg fun K hK => ?_
  have := hop ρ a w Q K (fun k _ av hk => h.slots k av hk) (fun i _ b hb => h.mem i b hb) h.keeps (fun v w' n ho => hK _ _ (hR _ _ _ (h.stepB h1 h2 h3 h4 ho)))
  rwa [if_pos (by simp [Region.wanted, hg])] at this
/-- a call whose effect is one of many -/
theorem wpl_call {α : Type} (E : α → Eff) (C : α → Prop) (h : Rep N S ρ F a w) (hg : o.guard = none) {f : FuncId} {args : Array Operand} {ts : Array TypeId} (ho : o.op = .call { callee := .value (.func f), args := args, argTypes := ts })
    (hf : goFn P f = true) (avs : List AV) (ha : args.toList.mapM S.av = some avs)
    (hc : Calls P f (avs.map (·.to ρ)).toArray w fun en w' => ∃ x v n, C x ∧ en = .returned v ∧ Out ρ (E x) w v w' n)
    (h1 : dstB N o = true) (h2 : ∀ x, freshB S (E x) = true) (h3 : ∀ x, wroteB S (E x) = true) (h4 : ∀ x, idB S (E x) = true)
    (hR : ∀ x ρ' a' w', C x → Rep N (S.step o.dst (E x)) ρ' F a' w' → wpList P ops Q rest a' w') : wpList P ops Q (o :: rest) a w := by
  refine wpList_plain hg fun K hK => ?_
  have hargs : args.map a.eval = (avs.map (·.to ρ)).toArray := by
    apply Array.ext'
    simp only [Array.toList_map]
    clear hc ho
    generalize args.toList = l at ha
    induction l generalizing avs with
    | nil => simp only [List.mapM_nil] at ha; cases ha; rfl
    | cons x l ih =>
      rw [List.mapM_cons] at ha
      cases hx : S.av x with
      | none => simp [hx] at ha
      | some av =>
        cases hl : l.mapM S.av with
        | none => simp [hx, hl] at ha
        | some avs' =>
          simp only [hx, hl] at ha
          cases ha
          simp only [List.map_cons]
          congr 1
          · cases x with
            | tmp t => exact h.eval_tmp hx
            | const v => simp only [St.av] at hx; cases hx; rfl
            | global g => simp only [St.av] at hx; cases hx
            | func g => simp only [St.av] at hx; cases hx; rfl
          · exact ih _ hl
  have hf' := hf
  unfold goFn at hf'
  cases hgf : P.funcs[f]? with
  | none => simp [hgf] at hf'
  | some fn =>
    simp only [hgf, Bool.and_eq_true, Bool.not_eq_true'] at hf'
    have hb : ¬ fn.body = none := by have := hf'.1; intro hn; rw [hn] at this; cases this
    have hne : ¬ fn.name = "runtime.NumGoroutine" := by simpa using hf'.2
    have hr : (execOp a.eval o).run P w = .ok (.enter f (avs.map (·.to ρ)).toArray) w := by
      simp [execOp, ho, resolve, Deferred.ofValue, Act.eval, invoke, callFunc, hgf, hne, hb]
      have := hargs
      simpa using this
    unfold Oper.wp
    rw [hr, Oper.upon_enter]
    refine hc.mono fun en w' he => ?_
    obtain ⟨x, v, n, hx, rfl, out⟩ := he
    exact hK _ _ (hR x _ _ _ hx (h.stepB h1 (h2 x) (h3 x) (h4 x) out))
end
/-- the region is its list -/
theorem seq_list {P : Program} {id : Nat} {l : List Oper} {c : Code} {a : Act} {w : World} {Q : Exit → Act → World → Prop} (h : wpList P l.toArray (Exit.then (c.wp P Q) Q) l a w) : (Code.seq (Code.region id l.toArray false) c).wp P Q a w :=
  wp_seq (wp_region_list h)
theorem last_list {P : Program} {id : Nat} {l : List Oper} {a : Act} {w : World} {Q : Exit → Act → World → Prop} (h : wpList P l.toArray Q l a w) : (Code.region id l.toArray false).wp P Q a w := wp_region_list h

theorem zeros_icv (f : Nat → Nat) (len c : Nat) (hc : len + 1 ≤ c) (hf : ∀ k, len ≤ k → f k = 0) :
    (icv f len).toList.toArray ++ [Value.int .i64 0].toArray ++ Builtin.zeroCells (Value.int .i64 0).cells (c - (len + 1)) = icv f c := by
  apply Array.ext_getElem?
  intro j
  have hs1 : ((icv f len).toList.toArray ++ [Value.int .i64 0].toArray).size = len + 1 := by simp
  by_cases h1 : j < len
  · rw [Array.getElem?_append_left (by omega), Array.getElem?_append_left (by simpa using h1), Array.toArray_toList, icv_get f len j h1, icv_get f c j (by omega)]
  · by_cases h2 : j = len
    · subst h2
      rw [Array.getElem?_append_left (by omega), Array.getElem?_append_right (by simp), icv_get f c j (by omega), hf j (Nat.le_refl _)]
      simp
    · rw [Array.getElem?_append_right (by omega), hs1]
      by_cases h3 : j < c
      · rw [icv_get f c j h3, hf j (by omega)]
        have hlt : j - (len + 1) < c - (len + 1) := by omega
        generalize j - (len + 1) = x at hlt
        generalize c - (len + 1) = y at hlt
        simp [Builtin.zeroCells, Value.cells, Nat.mod_one, hlt]
      · rw [Array.getElem?_eq_none (by simp [Builtin.zeroCells, Value.cells]; omega), Array.getElem?_eq_none (by rw [size_icv]; omega)]
/-- a slice of whole numbers that grows by a nought -/
theorem wpl_grow {F : Fr} {ops : Array Oper} {S : St} {o : Oper} {rest : List Oper} {N : Nat} {ρ : Nat → Nat} {a : Act} {w : World} {Q : Exit → Act → World → Prop} (n0 : Nat) (h : Rep N S ρ F a w) (hg : o.guard = none)
    {x y : Tmp} {ts : Array TypeId} (ho : o.op = .call { callee := .builtin .append, args := #[.tmp x, .tmp y], argTypes := ts }) (hts : ts = #[46, 46]) {i j len cap t u : Nat} {f : Nat → Nat}
    (hx : S.slot x = some (.s i 0 len cap)) (hy : S.slot y = some (.s j 0 1 1)) (hi : S.blk i = some ⟨icv f cap, t⟩) (hj : S.blk j = some ⟨icv (fun _ => 0) 1, u⟩) (hf : ∀ k, len ≤ k → f k = 0) (hle : len ≤ cap) (hgr : cap < len + 1) (hs : cap ≤ 100)
    (h1 : dstB N o = true) (h2 : (S.blk n0).isNone = true)
    (hR : ∀ c ρ' a' w', len + 1 ≤ c → Rep N (S.step o.dst { val := .s n0 0 (len + 1) c, new := some (n0, ⟨icv f c, 3⟩) }) ρ' F a' w' → wpList Try.prog ops Q rest a' w') : wpList Try.prog ops Q (o :: rest) a w := by
  subst hts
  refine wpList_plain hg fun K hK => ?_
  have e1 : a.eval (.tmp x) = .slice (some ⟨ρ i, 0, none⟩) len cap := h.eval_tmp hx
  have e2 : a.eval (.tmp y) = .slice (some ⟨ρ j, 0, none⟩) 1 1 := h.eval_tmp hy
  have e3 := h.mem i _ hi
  have e4 := h.mem j _ hj
  obtain ⟨ie, hie, hsz, hz, hb⟩ := info3
  have hnext : Builtin.nextslicecap (len + 1) cap * 8 ≤ 281474976710656 := by
    unfold Builtin.nextslicecap
    split
    · omega
    · split <;> omega
  have hrun := run_append_grow (P := Try.prog) w 46 o.type 3 ie (.int .i64 0) u46 hie hz ⟨ρ i, 0, none⟩ len cap (icv f len).toList (by simp [hsz])
    (fun k v hk => by
      have hlt : k < len := by have := (List.getElem?_eq_some_iff.1 hk).1; simpa using this
      rw [add_none, cell_of_obj e3, Nat.zero_add, icv_get f cap k (by omega)]
      rw [Array.getElem?_toList, icv_get f len k hlt] at hk
      exact hk)
    ⟨ρ j, 0, none⟩ 1 1 [.int .i64 0] (by simp [hsz])
    (fun k v hk => by
      have hlt : k < 1 := by have := (List.getElem?_eq_some_iff.1 hk).1; simpa using this
      obtain rfl : k = 0 := by omega
      rw [add_none, cell_of_obj e4, icv_get _ 1 _ (by decide)]
      simpa using hk)
    hgr (by omega) (by rw [hb]; exact hnext)
  have hge := grownCap_ge w (len + 1) cap 3
  rw [zeros_icv f len _ hge hf] at hrun
  have hr : (execOp a.eval o).run Try.prog w = .ok (.value (.slice (some ⟨w.heap.size, 0, none⟩) (len + 1) (grownCap w (len + 1) cap 3))) (w.drew.alloc (Blk.obj ⟨icv f (grownCap w (len + 1) cap 3), 3⟩)) := by
    simp [execOp, ho, resolve, invoke, builtin, e1, e2, hrun, Blk.obj]
  unfold Oper.wp
  rw [hr, Oper.upon_value]
  refine hK _ _ (hR _ (upd ρ { val := .s n0 0 (len + 1) (grownCap w (len + 1) cap 3), new := some (n0, ⟨icv f (grownCap w (len + 1) cap 3), 3⟩) } w.heap.size) _ _ hge (h.stepB h1 (by simpa [freshB] using h2) rfl (by simp [idB, AV.s]) ?_))
  exact ⟨by simp [AV.s, AV.to, upd], rfl, rfl, rfl, by simp, fun k hk _ => heap_alloc_lt w.drew _ hk, (fun _ hx => by cases hx), fun z hz => by cases hz; exact ⟨Nat.le_refl _, heap_alloc_same w.drew _⟩⟩
end Go.Proofs.Ytnbdeajjfhlmnaa
