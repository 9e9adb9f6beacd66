/-
  Calls of yield; a state begun anew; the end of a call behind ranges; the iterator's own values.
-/
import Derived.Test.YtnppgaohfegloaaIter
namespace Go.Proofs.Ytnppgaohfegloaa
open Go.RowKit

def slotsTo (ρ : Pl) (S : St) : List (Nat × AV) → Prop
  | [] => True
  | p :: l => (∃ x, p.2 = .v x ∧ ∃ av, S.slot p.1 = some av ∧ av.to ρ = x) ∧ slotsTo ρ S l
theorem slotsTo_mem {ρ : Pl} {S : St} : ∀ {l : List (Nat × AV)}, slotsTo ρ S l → ∀ p ∈ l, ∃ x, p.2 = .v x ∧ ∃ av, S.slot p.1 = some av ∧ av.to ρ = x
  | p :: l, h, q, hq => by
    rcases List.mem_cons.1 hq with rfl | hq
    · exact h.1
    · exact slotsTo_mem h.2 q hq
/-- from here on: what there is is old -/
theorem Rep.rebase {N : Nat} {S : St} {ρ : Pl} {F : Fr} {a : Act} {w : World} (h : Rep N S ρ F a w) (sl : List (Nat × AV)) (hs : slotsTo ρ S sl) : Rep N ⟨sl, []⟩ ρ { W := w, D := F.D } a w := by
  refine ⟨h.defers, h.size, fun k av hk => ?_, (fun i b hi => by cases hi), (fun i b hi => by cases hi), (fun i j b c n hi => by cases hi), fun k av i hk hi => ?_, Keeps.refl _⟩
  · obtain ⟨x, hx, av', h1, h2⟩ := slotsTo_mem hs _ (lookup_mem hk)
    simp only at hx
    subst hx
    rw [h.slots k av' h1, h2]
    rfl
  · obtain ⟨x, hx, _⟩ := slotsTo_mem hs _ (lookup_mem hk)
    simp only at hx
    subst hx
    cases hi
def slotsOf (a : Act) : List (Nat × AV) → Prop
  | [] => True
  | p :: l => (∃ x, p.2 = .v x ∧ a.tmps[p.1]? = some x) ∧ slotsOf a l
theorem slotsOf_mem {a : Act} : ∀ {l : List (Nat × AV)}, slotsOf a l → ∀ p ∈ l, ∃ x, p.2 = .v x ∧ a.tmps[p.1]? = some x
  | p :: l, h, q, hq => by
    rcases List.mem_cons.1 hq with rfl | hq
    · exact h.1
    · exact slotsOf_mem h.2 q hq
def ρ0 : Pl := ⟨fun _ => 0, fun _ _ => False⟩
theorem Rep.of_act {N : Nat} {a : Act} (w : World) (hN : a.tmps.size = N) (sl : List (Nat × AV)) (hs : slotsOf a sl) : Rep N ⟨sl, []⟩ ρ0 { W := w, D := a.defers } a w := by
  refine ⟨rfl, hN, fun k av hk => ?_, (fun i b hi => by cases hi), (fun i b hi => by cases hi), (fun i j b c n hi => by cases hi), fun k av i hk hi => ?_, Keeps.refl _⟩
  · obtain ⟨x, hx, h1⟩ := slotsOf_mem hs _ (lookup_mem hk)
    simp only at hx
    subst hx
    exact h1
  · obtain ⟨x, hx, _⟩ := slotsOf_mem hs _ (lookup_mem hk)
    simp only at hx
    subst hx
    cases hi
theorem Rep.turned {N : Nat} {S : St} {ρ : Pl} {W : World} {D : List Deferred} {a : Act} {w : World} (h : Rep N S ρ { W := W, D := D } a w) (B : Nat) : Turn B W w :=
  .of_below ⟨h.keeps.os, h.keeps.tape, h.keeps.output, h.keeps.size, fun k hk => h.keeps.block k hk (fun t => t)⟩
theorem Rep.lies {N : Nat} {S : St} {ρ : Pl} {W : World} {D : List Deferred} {a : Act} {w : World} (h : Rep N S ρ { W := W, D := D } a w) : Below W.heap.size W w :=
  ⟨h.keeps.os, h.keeps.tape, h.keeps.output, h.keeps.size, fun k hk => h.keeps.block k hk (fun t => t)⟩
/-- one operation within a round -/
theorem wplI_step {P : Program} {r : Option Nat} {F : Fr} {ops : Array Oper} {S : St} {o : Oper} {rest : List Oper} {N : Nat} {ρ : Pl} {a : Act} {w : World} {Q : Exit → Act → World → Prop} {e : Eff} (h : Rep N S ρ F a w) (hd : noDef o = true) (hop : OpOK P F ops o S e)
    (h1 : dstB N o = true) (h2 : freshB S e = true) (h3 : wroteB S e = true) (h4 : idB S e = true)
    (hR : ∀ ρ' a' w', Rep N (S.step o.dst e) ρ' F a' w' → wpListIn (FW r) 0 P ops Q rest a' w') : wpListIn (FW r) 0 P ops Q (o :: rest) a w := by
  have := hop ρ a w Q (wpListIn (FW r) 0 P ops Q rest) (fun k _ av hk => h.slots k av hk) (fun i _ b hb => h.mem i b hb) h.keeps (fun v w' n ho => hR _ _ _ (h.stepB h1 h2 h3 h4 ho))
  unfold wpListIn
  split at this
  · rename_i hw
    rw [if_pos hw]
    exact oper_in hd this
  · rename_i hw
    rw [if_neg hw]
    exact ⟨fun _ _ => trivial, this⟩
theorem oper_yield {P : Program} {r : Option Nat} {o : Oper} {a : Act} {w : World} {K : Act → World → Prop} {Q : Exit → Act → World → Prop} {l : Nat} {x : Operand} {args : Array Operand} {ts : Array TypeId} {vs : Array Value} {R : Ending → World → Prop}
    (ho : o.op = .call { callee := .value x, args := args, argTypes := ts }) (hx : a.eval x = .func (.yield l) #[] #[]) (ha : args.map a.eval = vs) (hy : YieldAt Fence.wide 0 P l vs w R)
    (hK : ∀ e w', R e w' → ∃ b, e = .returned (.bool b) ∧ K (a.put o.dst (.bool b)) w') : o.wpIn (FW r) 0 P a w K Q := by
  refine ⟨fun _ _ => trivial, ?_⟩
  rw [Oper.semAt_eq _ _ _ (fun c e => by rw [ho] at e; cases e)]
  obtain ⟨fn, tmps, assign, body, hrun, hround⟩ := hy
  have hrun2 : (execOp a.eval o).run P w = .ok (.round l fn tmps assign body) w := by
    have ha' : args.map (fun y => a.eval y) = vs := ha
    simp only [execOp, ho, resolve, hx]
    simp [go_sem, ha', hrun]
  rw [hrun2]
  refine ⟨(fun h => by cases h), RoundIn.mono (show RoundIn (FW r) 0 P l fn tmps assign body w R from hround) fun e w' he => ?_⟩
  obtain ⟨b, rfl, hk⟩ := hK e w' he
  exact hk
/-- behind a call of yield: another world -/
theorem Rep.yielded {N : Nat} {sl : List (Nat × AV)} {ρ : Pl} {F : Fr} {a : Act} {w : World} (h : Rep N ⟨sl, []⟩ ρ F a w) {d : Nat} (hd : d < N) (b : Bool) (w1 : World) : Rep N ⟨(d, .v (.bool b)) :: sl, []⟩ ρ { W := w1, D := F.D } (a.put (some d) (.bool b)) w1 := by
  have h1 := h.fresh (fun _ => rfl) w1
  exact h1.step (e := eY b) (n := ⟨0, fun _ => False, fun _ => False⟩) (dst := some d) (fun d' hd' => by cases hd'; exact hd) (fun x hx => by cases hx) (fun x hx => by cases hx) (fun i hi => by cases hi)
    ⟨rfl, rfl, rfl, rfl, Nat.le_refl _, (fun _ _ _ => rfl), (fun y hy => by cases hy), (fun y hy => by cases hy), (fun y z hy => by cases hy)⟩
/-- the end of a call, its marks taken up -/
theorem leaves_marks {P : Program} {fn : Func} {tmps : Array Value} {R : Ending → World → Prop} {B : Nat} : ∀ (Ds : List Nat) (w : World), (∀ D ∈ Ds, B ≤ D ∧ w.heap[D]? = some (.deferred (some []))) → Ds.Nodup →
    (∀ w', Turn B w w' → ∃ v, (results fn tmps).run P w' = .ok v w' ∧ R (.returned v) w') → LeavesInM Fence.wide 0 P fn tmps R (Ds.map markD) .returning w := by
  intro Ds
  induction Ds with
  | nil =>
    intro w _ _ hR
    exact hR w (Turn.refl _ _)
  | cons D Ds ih =>
    intro w hD hnd hR
    obtain ⟨hB, hd⟩ := hD D (by simp)
    have ht : Turn B w (w.putObj D (.deferred none)) := Turn.put _ hd rfl hB
    refine ⟨(fun h => by cases h), .inl ⟨D, _, rfl, run_takeDeferred hd, ?_⟩⟩
    refine ih _ (fun D' hD' => ?_) (List.nodup_cons.1 hnd).2 (fun w' h => hR w' (ht.trans h))
    obtain ⟨h1, h2⟩ := hD D' (by simp [hD'])
    refine ⟨h1, ?_⟩
    rw [World.putObj_heap_other (fun e => (List.nodup_cons.1 hnd).1 (by rw [← e]; exact hD'))]
    exact h2
theorem ret_marks {P : Program} {fn : Func} {a : Act} {R : Ending → World → Prop} {B : Nat} (Ds : List Nat) (w : World) (hd : a.defers = Ds.map markD) (hD : ∀ D ∈ Ds, B ≤ D ∧ w.heap[D]? = some (.deferred (some []))) (hn : Ds.Nodup)
    (hR : ∀ w', Turn B w w' → ∃ v, (results fn a.tmps).run P w' = .ok v w' ∧ R (.returned v) w') : bodyPostM Fence.wide 0 P fn R .ret a w := by
  show LeavesInM Fence.wide 0 P fn a.tmps R a.defers .returning w
  rw [hd]
  exact leaves_marks Ds w hD hn hR
/-! ### The iterator's values -/
structure RowR where
  v : Bool
  n : Nat
  b : Nat
  o : Int
def rwc (x : RowR) : Array Value := #[.bool x.v, byteV x.n 15, byteV x.n 14, byteV x.n 13, byteV x.n 12, byteV x.n 11, byteV x.n 10, byteV x.n 9, byteV x.n 8, byteV x.n 7, byteV x.n 6, byteV x.n 5, byteV x.n 4, byteV x.n 3, byteV x.n 2, byteV x.n 1, byteV x.n 0, .int .i64 (x.b : Nat), .int .i64 x.o]
theorem size_rwc (x : RowR) : (rwc x).size = 19 := rfl
theorem one_rwc (x : RowR) : (rwc x).all (·.oneCell') = true := by simp [rwc, byteV, Value.oneCell']
theorem rwc_pfc (x : RowR) : ∀ k, k < 18 → (rwc x)[0 + k]? = (pfc x.v x.n x.b)[k]?
  | 0, _ => rfl | 1, _ => rfl | 2, _ => rfl | 3, _ => rfl | 4, _ => rfl | 5, _ => rfl | 6, _ => rfl | 7, _ => rfl | 8, _ => rfl | 9, _ => rfl | 10, _ => rfl | 11, _ => rfl | 12, _ => rfl | 13, _ => rfl | 14, _ => rfl | 15, _ => rfl | 16, _ => rfl | 17, _ => rfl
  | k + 18, h => by omega
theorem rwc_o (x : RowR) : (rwc x)[18]? = some (.int .i64 x.o) := rfl
def encR (x : RowR) : Array Value := #[.agg (rwc x)]
def kt34 (ty : TypeId) : Bool := ty == 57 || ty == 60 || ty == 64 || ty == 81
def NodesIn (ids : Ids) (M : Tab) (w : World) : Prop := ∀ v d m b, ids v d m = some b → w.heap[b]? = some (cobj (nodeC ids M v d m) 64)
theorem NodesIn.kept {ids : Ids} {M : Tab} {w w' : World} (h : NodesIn ids M w) (hk : Kept kt34 w w') : NodesIn ids M w' := fun v d m b hb => hk.2 b _ _ rfl (h v d m b hb)
theorem zero73 : tZero Try.prog 73 = some (.agg (rwc ⟨false, 0, 0, 0⟩)) := by kernel_rfl
theorem one81 : tOne Try.prog 81 = true := by kernel_rfl
theorem agg73 : tAgg Try.prog 73 = true := by kernel_rfl
theorem sz73 : tSize Try.prog 73 = some 19 := by kernel_rfl
section
variable {F : Fr} {ops : Array Oper} {S : St} {o : Oper}
theorem run_idx0 (k0 k1 : Value) (w : World) : (Instr.index 58 (.agg #[k0, k1]) (.int .i64 0)).run Try.prog w = .ok k0 w := by kernel_rfl
theorem run_idx1 (k0 k1 : Value) (w : World) : (Instr.index 58 (.agg #[k0, k1]) (.int .i64 1)).run Try.prog w = .ok k1 w := by kernel_rfl
theorem run_idx58 (k0 k1 : Value) (w : World) (i : Nat) (k : Value) (h : (#[k0, k1] : Array Value)[i]? = some k) : (Instr.index 58 (.agg #[k0, k1]) (.int .i64 (i : Nat))).run Try.prog w = .ok k w := by
  have hi : i < 2 := (Array.getElem?_eq_some_iff.1 h).1
  obtain rfl | rfl : i = 0 ∨ i = 1 := by omega
  · have : k0 = k := by simpa using h
    subst this
    exact run_idx0 k0 k1 w
  · have : k1 = k := by simpa using h
    subst this
    exact run_idx1 k0 k1 w
theorem o_index58 (hw : want ops S o = some true) {x ix : Operand} (ho : o.op = .index 58 x ix) {k0 k1 k : Value} {i : Nat} (hx : S.av x = some (.v (.agg #[k0, k1]))) (hi : S.av ix = some (.v (.int .i64 (i : Nat)))) (hk : (#[k0, k1] : Array Value)[i]? = some k) :
    OpOK Try.prog F ops o S { val := .v k } :=
  ok_value hw fun ρ a w h1 _ _ => by
    have e1 : a.eval x = .agg #[k0, k1] := h1 x (by simp [ho, Op.operands]) _ hx
    have e2 : a.eval ix = .int .i64 (i : Nat) := h1 ix (by simp [ho, Op.operands]) _ hi
    simp [execOp, ho, e1, e2, run_idx58 k0 k1 w i k hk]
end
end Go.Proofs.Ytnppgaohfegloaa
