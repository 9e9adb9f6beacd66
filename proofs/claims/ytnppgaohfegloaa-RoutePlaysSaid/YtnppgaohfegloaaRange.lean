/-
  A range over a function that yields nothing; what a function is left with behind it.
-/
import Derived.Test.YtnppgaohfegloaaDrop
import Derived.RangeFuncRecord
import Derived.RangeFuncLeaves
import Derived.ControlIn
namespace Go.Proofs.Ytnppgaohfegloaa
open Go.RowKit

/-- the block for what the rounds defer: none yet -/
def markA (D : Nat) : Ext where
  holds := fun r f H => r = D ∧ H D = some (.deferred (some [])) ∧ f = fun n => n = D
  loc := by
    rintro r f H H' ⟨h0, h1, h2⟩ hh
    exact ⟨h0, by rw [hh D (by rw [h2])]; exact h1, h2⟩
  live := by
    rintro r f H n ⟨h0, h1, h2⟩ hn
    rw [h2] at hn
    exact ⟨_, by rw [hn]; exact h1⟩
theorem calls_of_wp_marks {P : Program} {f : FuncId} {fn : Func} {c : Code} {args : Array Value} {w : World} {R : Ending → World → Prop}
    (hf : P.funcs[f]? = some fn) (hb : fn.body = some c) (h : c.wp P (bodyPostM Fence.wide 0 P fn R) { tmps := args ++ Array.replicate (fn.ntmps - args.size) undef, defers := [] } w) : Calls P f args w R :=
  callsIn_wide.1 (callsIn_of_wp_marks (F := Fence.wide) (n := 0) hf hb trivial (wpIn_wide.2 h))
theorem heap_two (w : World) (o o' : Obj) (k : Nat) (hk : k < w.heap.size) : ((w.alloc o).alloc o').heap[k]? = w.heap[k]? := by
  rw [heap_alloc_lt _ _ (by simp; omega), heap_alloc_lt _ _ hk]
/-- no round is run -/
theorem wp_range0 {P : Program} {g : Operand} {ps : Array Tmp} {assign body : Code} {Q : Exit → Act → World → Prop} {a : Act} {w : World} {gf : FuncId} {lb : Array Value} (hg : a.eval g = .func (.func gf) #[] lb) (hfn : goFn P gf = true)
    (hcall : ∀ (l : Nat) (w1 : World), (∀ k, k < w.heap.size → w1.heap[k]? = w.heap[k]?) → Calls P gf (#[.func (.yield l) #[] #[]] ++ lb) w1 fun e w2 => (∃ v, e = .returned v) ∧ Below w1.heap.size w1 w2)
    (hQ : ∀ (D : Nat) (w3 : World), w.heap.size ≤ D → w3.heap[D]? = some (.deferred (some [])) → Below w.heap.size w w3 → Q .normal { a with defers := { target := .collected D, args := #[] } :: a.defers } w3) :
    (Code.rangeFunc g ps assign body).wp P Q a w := by
  refine (wpIn_wide (n := 0)).1 (wpIn_rangeFunc ?_)
  intro fn _
  obtain ⟨R, hR⟩ : ∃ R : Loop, R = { state := .ready, pending := none, fn, tmps := a.tmps, params := ps, assign, body, defers := w.heap.size } := ⟨_, rfl⟩
  obtain ⟨W1, hW1⟩ : ∃ W1, (w.alloc (.deferred (some []))).alloc (.loop R) = W1 := ⟨_, rfl⟩
  have hs1 : W1.heap.size = w.heap.size + 2 := by rw [← hW1]; simp
  have hold : ∀ k, k < w.heap.size → W1.heap[k]? = w.heap[k]? := fun k hk => by rw [← hW1]; exact heap_two w _ _ k hk
  have hL1 : W1.heap[w.heap.size + 1]? = some (.loop R) := by
    rw [← hW1]; have := heap_alloc_same (w.alloc (.deferred (some []))) (.loop R); simpa using this
  have hK1 : W1.heap[w.heap.size]? = some (.deferred (some [])) := by
    rw [← hW1, heap_alloc_lt _ _ (by simp)]; exact heap_alloc_same w _
  have hfn' := hfn
  unfold goFn at hfn'
  cases hgf : P.funcs[gf]? with
  | none => simp [hgf] at hfn'
  | some f0 =>
    simp only [hgf, Bool.and_eq_true, Bool.not_eq_true'] at hfn'
    have hb : ¬ f0.body = none := by have := hfn'.1; intro hn; rw [hn] at this; cases this
    have hne : ¬ f0.name = "runtime.NumGoroutine" := by simpa using hfn'.2
    refine ⟨w.heap.size + 1, [{ target := .collected w.heap.size, args := #[] }], W1, { target := .fn (.func gf) lb, args := #[.func (.yield (w.heap.size + 1)) #[] #[]] }, W1, gf,
      #[.func (.yield (w.heap.size + 1)) #[] #[]] ++ lb, W1, ?_, ?_, ?_, ?_, (fun h => by cases h), ?_⟩
    · rw [← hW1, hR]; exact run_enterLoop_outer _ _ _ _ _
    · simp only [resolve, hg]
      simp [go_sem]
    · intro f' _; trivial
    · simp [invoke, callFunc, hgf, hne, hb]
    · refine callsIn_wide.2 ((hcall (w.heap.size + 1) W1 hold).mono fun e W2 he => ?_)
      obtain ⟨⟨v, rfl⟩, hbl⟩ := he
      have hL2 : W2.heap[w.heap.size + 1]? = some (.loop R) := (hbl.block _ (by omega)).trans hL1
      have hend := run_endLoop (P := P) hL2 (by rw [hR]; exact fun h => by cases h)
      have hpn : R.pending = none := by rw [hR]
      rw [hpn] at hend
      obtain ⟨o', ho'⟩ : ∃ o', Obj.loop { R with state := .exhausted, pending := none } = o' := ⟨_, rfl⟩
      refine ⟨none, _, hend, ?_⟩
      have hend2 : ∀ w4, w4 = W2.putObj (w.heap.size + 1) o' → Q .normal { a with defers := [{ target := .collected w.heap.size, args := #[] }] ++ a.defers } w4 := by
        rintro w4 rfl
        have hother : ∀ k, k ≠ w.heap.size + 1 → (W2.putObj (w.heap.size + 1) o').heap[k]? = W2.heap[k]? := fun k hk => World.putObj_heap_other hk
        have hsz : (W2.putObj (w.heap.size + 1) o').heap.size = W2.heap.size := by simp [World.putObj]
        refine hQ w.heap.size _ (Nat.le_refl _) ?_ ⟨?_, ?_, ?_, ?_, ?_⟩
        · rw [hother _ (by omega)]
          exact (hbl.block _ (by omega)).trans hK1
        · show W2.os = w.os
          rw [hbl.os, ← hW1]; rfl
        · show W2.tape = w.tape
          rw [hbl.tape, ← hW1]; rfl
        · show W2.output = w.output
          rw [hbl.output, ← hW1]; rfl
        · rw [hsz]
          have := hbl.size
          omega
        · intro k hk
          rw [hother k (by omega), hbl.block k (by omega), hold k hk]
      exact hend2 _ (by rw [← ho'])
/-- behind it: the mark, and the block that it names -/
theorem Rep.mark {N : Nat} {S : St} {ρ : Pl} {W0 : World} {a : Act} {w w3 : World} (h : Rep N S ρ { W := W0 } a w) {D : Nat} (hD : w.heap.size ≤ D) (hD3 : w3.heap[D]? = some (.deferred (some []))) (hb : Below w.heap.size w w3)
    (i : Nat) (hi : (S.blk i).isNone = true) (sl : List (Nat × AV)) (mm : List (Nat × Blk)) (hs : slotsIn S sl) (hm : memIn S mm) (hne : (mm.all fun q => q.1 != i) = true) (hl : liveB ⟨sl, (i, .ext (markA D)) :: mm⟩ = true) :
    Rep N ⟨sl, (i, .ext (markA D)) :: mm⟩ ⟨fun j => if j = i then D else ρ.num j, fun j => if j = i then fun n => n = D else ρ.foot j⟩ { W := W0, D := [{ target := .collected D, args := #[] }] } { a with defers := { target := .collected D, args := #[] } :: a.defers } w3 := by
  have hblk : ∀ k b, St.blk ⟨sl, (i, .ext (markA D)) :: mm⟩ k = some b → (k = i ∧ b = .ext (markA D)) ∨ (k ≠ i ∧ S.blk k = some b) := by
    intro k b hk
    rcases List.mem_cons.1 (lookup_mem hk) with h1 | h1
    · cases h1; exact .inl ⟨rfl, rfl⟩
    · have h2 := List.all_eq_true.1 hne _ h1
      exact .inr ⟨by simpa using h2, memIn_mem hm _ h1⟩
  have hlt : ∀ k b n, S.blk k = some b → ρ.foot k n → n < w.heap.size := fun k b n hk hn => by
    obtain ⟨o, ho⟩ := Blk.is_live (h.mem k b hk) hn
    exact lt_of_hp ho
  refine ⟨by rw [h.defers], h.size, fun k av hk => ?_, fun k b hk => ?_, fun k b hk n hn => ?_, fun k l b e n hk hl' hn hn' => ?_, fun k av j hk hj => ?_, ?_⟩
  · have h1 := h.slots k av (slotsIn_mem hs _ (lookup_mem hk))
    refine h1.trans (congrArg some (AV.to_congr fun j hj => ?_))
    show ρ.num j = if j = i then D else ρ.num j
    by_cases e : j = i
    · exfalso
      obtain ⟨b, hb'⟩ := h.live k av j (slotsIn_mem hs _ (lookup_mem hk)) hj
      rw [e] at hb'
      rw [hb'] at hi
      cases hi
    · rw [if_neg e]
  · rcases hblk k b hk with ⟨rfl, rfl⟩ | ⟨h1, h2⟩
    · simp only [if_true]
      exact ⟨rfl, hD3, rfl⟩
    · simp only [if_neg h1]
      exact Blk.is_loc (h.mem k b h2) fun n hn => hb.block n (hlt _ _ _ h2 hn)
  · rcases hblk k b hk with ⟨rfl, rfl⟩ | ⟨h1, h2⟩
    · simp only [if_true] at hn
      subst hn
      exact .inl (Nat.le_trans h.keeps.size hD)
    · simp only [if_neg h1] at hn
      exact h.own k b h2 n hn
  · rcases hblk k b hk with ⟨rfl, rfl⟩ | ⟨h1, h2⟩ <;> rcases hblk l e hl' with ⟨rfl, rfl⟩ | ⟨h3, h4⟩
    · rfl
    · simp only [if_true] at hn
      simp only [if_neg h3] at hn'
      subst hn
      have := hlt _ _ _ h4 hn'
      omega
    · simp only [if_neg h1] at hn
      simp only [if_true] at hn'
      subst hn'
      have := hlt _ _ _ h2 hn
      omega
    · simp only [if_neg h1] at hn
      simp only [if_neg h3] at hn'
      exact h.inj _ _ _ _ _ h2 h4 hn hn'
  · have := List.all_eq_true.1 hl _ (lookup_mem hk)
    simp only [hj] at this
    exact Option.isSome_iff_exists.1 this
  · refine ⟨hb.os.trans h.keeps.os, hb.tape.trans h.keeps.tape, hb.output.trans h.keeps.output, Nat.le_trans h.keeps.size hb.size, fun k hk hM => ?_⟩
    rw [← h.keeps.block k hk hM]
    exact hb.block k (Nat.lt_of_lt_of_le hk h.keeps.size)
/-- one thing said otherwise -/
theorem Rep.recast {N : Nat} {sl : List (Nat × AV)} {i : Nat} {b b' : Blk} {mm : List (Nat × Blk)} {ρ : Pl} {F : Fr} {a : Act} {w : World} (h : Rep N ⟨sl, (i, b) :: mm⟩ ρ F a w) (hb : ∀ r f H, b.is r f H → b'.is r f H) : Rep N ⟨sl, (i, b') :: mm⟩ ρ F a w := by
  have hblk : ∀ k e, St.blk ⟨sl, (i, b') :: mm⟩ k = some e → (k = i ∧ e = b' ∧ St.blk ⟨sl, (i, b) :: mm⟩ k = some b) ∨ (k ≠ i ∧ St.blk ⟨sl, (i, b) :: mm⟩ k = some e) := by
    intro k e hk
    by_cases hki : k = i
    · subst hki
      have h1 : St.blk ⟨sl, (k, b') :: mm⟩ k = some b' := by simp [St.blk]
      have h2 : St.blk ⟨sl, (k, b) :: mm⟩ k = some b := by simp [St.blk]
      rw [h1] at hk
      cases hk
      exact .inl ⟨rfl, rfl, h2⟩
    · have hf : (k == i) = false := by simpa using hki
      have h1 : St.blk ⟨sl, (i, b') :: mm⟩ k = St.blk ⟨sl, (i, b) :: mm⟩ k := by simp [St.blk, List.lookup_cons, hf]
      exact .inr ⟨hki, by rw [← h1]; exact hk⟩
  have hex : ∀ k e, St.blk ⟨sl, (i, b') :: mm⟩ k = some e → ∃ e', St.blk ⟨sl, (i, b) :: mm⟩ k = some e' := fun k e hk => by
    rcases hblk k e hk with ⟨_, _, h2⟩ | ⟨_, h2⟩ <;> exact ⟨_, h2⟩
  refine ⟨h.defers, h.size, fun k av hk => h.slots k av hk, fun k e hk => ?_, fun k e hk n hn => ?_, fun k l e e' n hk hl hn hn' => ?_, fun k av j hk hj => ?_, h.keeps⟩
  · rcases hblk k e hk with ⟨_, rfl, h2⟩ | ⟨_, h2⟩
    · exact hb _ _ _ (h.mem k b h2)
    · exact h.mem k e h2
  · obtain ⟨e', h2⟩ := hex k e hk
    exact h.own k e' h2 n hn
  · obtain ⟨x, h2⟩ := hex k e hk
    obtain ⟨y, h3⟩ := hex l e' hl
    exact h.inj k l x y n h2 h3 hn hn'
  · obtain ⟨e', h2⟩ := h.live k av j hk hj
    by_cases hki : j = i
    · subst hki
      exact ⟨b', by simp [St.blk]⟩
    · have hf : (j == i) = false := by simpa using hki
      exact ⟨e', by simpa [St.blk, List.lookup_cons, hf] using h2⟩
theorem tab_nil_of {r : Nat} {f : Nat → Prop} {H : Hp} (h : (Blk.mk (tbc (.pointer none) (.pointer none) 0) 60).is r f H) : (Blk.ext (tabA Tab.nil)).is r f H := by
  obtain ⟨h1, rfl⟩ := h
  refine ⟨_, _, IsT.nil r, ?_, fun n o hn => ?_⟩
  · funext n
    by_cases e : n = r <;> simp [e]
  · by_cases e : n = r
    · subst e
      simp only [if_true] at hn
      cases hn
      exact h1
    · simp [e] at hn
/-- one operation, guarded or not -/
theorem wpl_stepG {P : Program} {F : Fr} {ops : Array Oper} {S : St} {o : Oper} {rest : List Oper} {N : Nat} {ρ : Pl} {a : Act} {w : World} {Q : Exit → Act → World → Prop} {e : Eff} (h : Rep N S ρ F a w) (hop : OpOK P F ops o S e) (h1 : dstB N o = true) (h2 : freshB S e = true) (h3 : wroteB S e = true) (h4 : idB S e = true)
    (hR : ∀ ρ' a' w', Rep N (S.step o.dst e) ρ' F a' w' → wpList P ops Q rest a' w') : wpList P ops Q (o :: rest) a w :=
  wpList_step fun K hK => hop ρ a w Q K (fun k _ av hk => h.slots k av hk) (fun i _ b hb => h.mem i b hb) h.keeps (fun v w' n ho => hK _ _ (hR _ _ _ (h.stepB h1 h2 h3 h4 ho)))
/-- the end of a call behind a range, whose result lies in a block -/
theorem Rep.result_marks {P : Program} {N : Nat} {S : St} {ρ : Pl} {W0 : World} {D : Nat} {a : Act} {w : World} (h : Rep N S ρ { W := W0, D := [{ target := .collected D, args := #[] }] } a w) {fn : Func} {p : Tmp} {t t' : TypeId} {i k : Nat} {cs : Array Value} {v : Value} {R : Ending → World → Prop}
    (hfn : fn.results = #[.cell p t]) (hs : S.slot p = some (.p i 0)) (hb : S.blk i = some (.mk cs t')) (ht : tOne P t = true) (hv : cs[0]? = some v) (hk : S.blk k = some (.ext (markA D))) (hki : (k != i) = true)
    (hR : ∀ w', Below W0.heap.size W0 w' → R (.returned v) w') (hD0 : W0.heap.size ≤ D) : bodyPostM Fence.wide 0 P fn R .ret a w := by
  show LeavesInM Fence.wide 0 P fn a.tmps R a.defers .returning w
  rw [h.defers]
  have hd := h.mem k _ hk
  have hd' : w.heap[D]? = some (.deferred (some [])) := hd.2.1
  refine ⟨by simp, .inl ⟨D, _, rfl, run_takeDeferred hd', ?_⟩⟩
  have hm := h.mem i _ hb
  have hne : ρ.num i ≠ D := fun e => by
    have h1 : ρ.foot i (ρ.num i) := by rw [hm.2]
    have h2 : ρ.foot k (ρ.num i) := by rw [hd.2.2, e]
    have := h.inj _ _ _ _ _ hk hb h2 h1
    simp [this] at hki
  have hps := h.slots _ _ hs
  have hcell : (w.putObj D (.deferred none)).cell? ⟨ρ.num i, 0, none⟩ = some v := by
    have hh : hp (w.putObj D (.deferred none)) (ρ.num i) = some (cobj cs t') := by
      show (w.putObj D (.deferred none)).heap[ρ.num i]? = _
      rw [World.putObj_heap_other hne]
      exact hm.1
    rw [cell_of_obj hh, hv]
  refine ⟨v, ?_, hR _ ⟨h.keeps.os, h.keeps.tape, h.keeps.output, ?_, fun j hj => ?_⟩⟩
  · simp [results, hfn, hps, asAddr, loadVar, run_isAgg_false ht, hcell]
  · have := h.keeps.size
    simpa [World.putObj] using this
  · rw [World.putObj_heap_other (by omega)]
    exact h.keeps.block j hj (fun h => h)
end Go.Proofs.Ytnppgaohfegloaa
