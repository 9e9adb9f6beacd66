/-
  A call whose outcome is said as one pleases; a value put beside what is known.
-/
import Derived.Test.YtnppgaohfegloaaAll
import Derived.Test.YtnppgaohfegloaaSeqW
namespace Go.Proofs.Ytnppgaohfegloaa
open Go.RowKit

theorem wpl_free {P : Program} {F : Fr} {ops : Array Oper} {S : St} {o : Oper} {rest : List Oper} {N : Nat} {ρ : Pl} {a : Act} {w : World} {Q : Exit → Act → World → Prop} (h : Rep N S ρ F a w) (hg : o.guard = none) {f : FuncId} {args : Array Operand} {ts : Array TypeId} (ho : o.op = .call { callee := .value (.func f), args := args, argTypes := ts })
    (hf : goFn P f = true) (avs : List AV) (ha : args.toList.mapM S.av = some avs) {R : Ending → World → Prop} (hc : Calls P f (avs.map (·.to ρ)).toArray w R)
    (hR : ∀ e w', R e w' → ∃ v, e = .returned v ∧ wpList P ops Q rest (a.put o.dst v) w') : wpList P ops Q (o :: rest) a w := by
  refine wpList_plain hg fun K hK => ?_
  have hargs : args.map a.eval = (avs.map (·.to ρ)).toArray := by
    apply Array.ext'
    simp only [Array.toList_map]
    clear hc ho
    generalize args.toList = l at ha
    induction l generalizing avs with
    | nil => simp only [List.mapM_nil] at ha; cases ha; rfl
    | cons x l ih =>
      rw [List.mapM_cons] at ha
      cases hx : S.av x with
      | none => simp [hx] at ha
      | some av =>
        cases hl : l.mapM S.av with
        | none => simp [hx, hl] at ha
        | some avs' =>
          simp only [hx, hl] at ha
          cases ha
          simp only [List.map_cons]
          congr 1
          · cases x with
            | tmp t => exact h.eval_tmp hx
            | const v => simp only [St.av] at hx; cases hx; rfl
            | global g => simp only [St.av] at hx; cases hx
            | func g => simp only [St.av] at hx; cases hx; rfl
          · exact ih _ hl
  have hf' := hf
  unfold goFn at hf'
  cases hgf : P.funcs[f]? with
  | none => simp [hgf] at hf'
  | some fn =>
    simp only [hgf, Bool.and_eq_true, Bool.not_eq_true'] at hf'
    have hb : ¬ fn.body = none := by have := hf'.1; intro hn; rw [hn] at this; cases this
    have hne : ¬ fn.name = "runtime.NumGoroutine" := by simpa using hf'.2
    have hr : (execOp a.eval o).run P w = .ok (.enter f (avs.map (·.to ρ)).toArray) w := by
      simp [execOp, ho, resolve, Deferred.ofValue, Act.eval, invoke, callFunc, hgf, hne, hb]
      have := hargs
      simpa using this
    unfold Oper.wp
    rw [hr, Oper.upon_enter]
    refine hc.mono fun en w' he => ?_
    obtain ⟨v, rfl, h⟩ := hR en w' he
    exact hK _ _ h
/-- behind such a call -/
theorem Rep.freed {N : Nat} {sl : List (Nat × AV)} {ρ : Pl} {F : Fr} {a : Act} {w : World} (h : Rep N ⟨sl, []⟩ ρ F a w) {d : Nat} (hd : d < N) (v : Value) (w1 : World) : Rep N ⟨(d, .v v) :: sl, []⟩ (upd ρ { val := .v v } ⟨0, fun _ => False, fun _ => False⟩) { W := w1, D := F.D } (a.put (some d) v) w1 := by
  have h1 := h.fresh (fun _ => rfl) w1
  exact h1.step (dst := some d) (e := { val := .v v }) (n := ⟨0, fun _ => False, fun _ => False⟩) (fun d' hd' => by cases hd'; exact hd) (fun x hx => by cases hx) (fun x hx => by cases hx) (fun i hi => by cases hi)
    ⟨rfl, rfl, rfl, rfl, Nat.le_refl _, (fun _ _ _ => rfl), (fun y hy => by cases hy), (fun y hy => by cases hy), (fun y z hy => by cases hy)⟩
theorem obj_ne {w : World} {i j : Nat} {cs ds : Array Value} {s t : TypeId} (hi : w.heap[i]? = some (cobj cs s)) (hj : w.heap[j]? = some (cobj ds t)) (hst : s ≠ t) : i ≠ j := fun e => by
  rw [e, hj] at hi
  simp only [cobj, Option.some.injEq, Obj.cells.injEq] at hi
  exact hst hi.2.1.symm
theorem row_keepC {w w' : World} {base : Nat} {e : TypeId} {size : Nat} {v : Value} {n : Nat} {xs : List Value} (h : w.ownsRow base e size v n xs) (hk : ∀ (g : Nat) (cur : Array Value), w.heap[g]? = some (cobj cur e) → w'.heap[g]? = some (cobj cur e)) : w'.ownsRow base e size v n xs := by
  refine ⟨h.1, ?_⟩
  rcases h.2 with h2 | ⟨g, cap, cur, rfl, hb, hg, rest⟩
  · exact .inl h2
  · exact .inr ⟨g, cap, cur, rfl, hb, hk g cur hg, rest⟩
theorem zero3 : tZero Try.prog 3 = some (.int .i64 0) := by kernel_rfl
theorem zero4 : tZero Try.prog 4 = some (.bool false) := by kernel_rfl
end Go.Proofs.Ytnppgaohfegloaa
