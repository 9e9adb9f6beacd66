/-
  An iterator's contract, and a range over it: what each side keeps of the other's.
-/
import Derived.Test.YtnppgaohfegloaaInRound
namespace Go.Proofs.Ytnppgaohfegloaa
open Go.RowKit

/-- the cells of these types stay -/
def Kept (kt : TypeId → Bool) (w w' : World) : Prop := w.heap.size ≤ w'.heap.size ∧ ∀ (k : Nat) (cs : Array Value) (ty : TypeId), kt ty = true → w.heap[k]? = some (cobj cs ty) → w'.heap[k]? = some (cobj cs ty)
theorem Kept.refl (kt : TypeId → Bool) (w : World) : Kept kt w w := ⟨Nat.le_refl _, fun _ _ _ _ h => h⟩
theorem Kept.trans {kt : TypeId → Bool} {a b c : World} (h : Kept kt a b) (k : Kept kt b c) : Kept kt a c := ⟨Nat.le_trans h.1 k.1, fun i cs ty ht hi => k.2 i cs ty ht (h.2 i cs ty ht hi)⟩
/-- what is no cells and lies at or beyond B stays -/
structure NK (B : Nat) (w w' : World) : Prop where
  size : w.heap.size ≤ w'.heap.size
  same : ∀ (k : Nat) (o : Obj), B ≤ k → w.heap[k]? = some o → o.isCells = false → w'.heap[k]? = some o
theorem NK.refl (B : Nat) (w : World) : NK B w w := ⟨Nat.le_refl _, fun _ _ _ h _ => h⟩
theorem NK.trans {B : Nat} {a b c : World} (h : NK B a b) (k : NK B b c) : NK B a c := ⟨Nat.le_trans h.size k.size, fun i o hB hi ho => k.same i o hB (h.same i o hB hi ho) ho⟩
theorem NK.mono {B B' : Nat} {a b : World} (h : NK B a b) (hB : B ≤ B') : NK B' a b := ⟨h.size, fun i o hi => h.same i o (Nat.le_trans hB hi)⟩
/-- what an iterator may do beside its rounds: new blocks, and turns of what is no cells and lies at or beyond B -/
structure Turn (B : Nat) (w w' : World) : Prop where
  os : w'.os = w.os
  tape : w'.tape = w.tape
  output : w'.output = w.output
  size : w.heap.size ≤ w'.heap.size
  same : ∀ (k : Nat) (o : Obj), w.heap[k]? = some o → (k < B ∨ o.isCells = true) → w'.heap[k]? = some o
theorem Turn.refl (B : Nat) (w : World) : Turn B w w := ⟨rfl, rfl, rfl, Nat.le_refl _, fun _ _ h _ => h⟩
theorem Turn.trans {B : Nat} {a b c : World} (h : Turn B a b) (k : Turn B b c) : Turn B a c := ⟨k.os.trans h.os, k.tape.trans h.tape, k.output.trans h.output, Nat.le_trans h.size k.size, fun i o hi hc => k.same i o (h.same i o hi hc) hc⟩
theorem Turn.mono {B B' : Nat} {a b : World} (h : Turn B a b) (hB : B' ≤ B) : Turn B' a b := ⟨h.os, h.tape, h.output, h.size, fun i o hi hc => h.same i o hi (hc.imp (fun t => Nat.lt_of_lt_of_le t hB) id)⟩
theorem Turn.of_below {B : Nat} {w w' : World} (h : Below w.heap.size w w') : Turn B w w' := ⟨h.os, h.tape, h.output, h.size, fun k o hk _ => by rw [h.block k (lt_of_heap hk)]; exact hk⟩
theorem Turn.put {B l : Nat} {w : World} {o : Obj} (o' : Obj) (h : w.heap[l]? = some o) (hc : o.isCells = false) (hB : B ≤ l) : Turn B w (w.putObj l o') :=
  ⟨rfl, rfl, rfl, by simp, fun k ok hk ht => by
    by_cases e : k = l
    · subst e
      rw [h] at hk
      cases hk
      rw [hc] at ht
      rcases ht with ht | ht
      · omega
      · cases ht
    · rw [World.putObj_heap_other e]; exact hk⟩
theorem Turn.kept {B : Nat} {w w' : World} (kt : TypeId → Bool) (h : Turn B w w') : Kept kt w w' := ⟨h.size, fun k cs ty _ hk => h.same k _ hk (.inr rfl)⟩
theorem NK.put {B l : Nat} {w : World} (o' : Obj) (hB : l < B) : NK B w (w.putObj l o') :=
  ⟨by simp, fun k o hk h _ => by rw [World.putObj_heap_other (by omega)]; exact h⟩
theorem NK.of_below {B : Nat} {w w' : World} (h : Below w.heap.size w w') : NK B w w' := ⟨h.size, fun k o _ hk _ => by rw [h.block k (lt_of_heap hk)]; exact hk⟩
def Abide (B : Nat) (J : World → Prop) : Prop := ∀ w w', J w → Turn B w w' → J w'
theorem Abide.and {B : Nat} {J J' : World → Prop} (h : Abide B J) (h' : Abide B J') : Abide B (fun w => J w ∧ J' w) := fun w w' hj ht => ⟨h w w' hj.1 ht, h' w w' hj.2 ht⟩
theorem Abide.mono {B B' : Nat} {J : World → Prop} (h : Abide B J) (hB : B ≤ B') : Abide B' J := fun w w' hj ht => h w w' hj (ht.mono hB)
theorem abide_obj {B k : Nat} {o : Obj} (hk : k < B) : Abide B (fun w => w.heap[k]? = some o) := fun _ _ h ht => ht.same k o h (.inl hk)
theorem abide_cells {B k : Nat} {cs : Array Value} {ty : TypeId} : Abide B (fun w => w.heap[k]? = some (cobj cs ty)) := fun _ _ h ht => ht.same k _ h (.inr rfl)
theorem abide_kept {B : Nat} (kt : TypeId → Bool) (w0 : World) : Abide B (fun w => Kept kt w0 w) := fun _ _ h ht => h.trans (ht.kept kt)
theorem abide_nk {B B' : Nat} (w0 : World) (hB : w0.heap.size ≤ B') : Abide B' (fun w => NK B w0 w) := fun w w' h ht =>
  ⟨Nat.le_trans h.size ht.size, fun k o hk h0 hc => ht.same k o (h.same k o hk h0 hc) (.inl (Nat.lt_of_lt_of_le (lt_of_heap h0) hB))⟩
theorem abide_below {B : Nat} (w0 : World) (hB : w0.heap.size ≤ B) : Abide B (fun w => Below w0.heap.size w0 w) := fun w w' h ht =>
  ⟨ht.os.trans h.os, ht.tape.trans h.tape, ht.output.trans h.output, Nat.le_trans h.size ht.size, fun k hk => by
    have h1 := h.block k hk
    rw [Array.getElem?_eq_getElem hk] at h1
    rw [Array.getElem?_eq_getElem hk]
    exact ht.same k _ h1 (.inl (by omega))⟩
theorem abide_pure (B : Nat) (p : Prop) : Abide B (fun _ => p) := fun _ _ h _ => h
theorem abide_size {B n : Nat} : Abide B (fun w => n ≤ w.heap.size) := fun _ _ h ht => Nat.le_trans h ht.size
/-- WHAT AN ITERATOR DOES: it goes over xs. -/
def Iter {α : Type} (P : Program) (gf : FuncId) (lb : Array Value) (encs : α → Array Value) (kt : TypeId → Bool) (xs : List α) (w0 : World) : Prop :=
  ∀ (l : Nat) (J Jx : List α → World → Prop) (W : World), Kept kt w0 W → (∀ s, Abide W.heap.size (J s)) → (∀ s, Abide W.heap.size (Jx s)) →
    (∀ pre x W1, J pre W1 → pre ++ [x] <+: xs → W.heap.size ≤ W1.heap.size → YieldAt Fence.wide 0 P l (encs x) W1 fun e W' =>
      (e = .returned (.bool true) ∧ J (pre ++ [x]) W' ∧ Kept kt W1 W' ∧ NK W.heap.size W1 W') ∨ (e = .returned (.bool false) ∧ Jx (pre ++ [x]) W' ∧ NK W.heap.size W1 W')) →
    J [] W → Calls P gf (#[.func (.yield l) #[] #[]] ++ lb) W fun e W' => (∃ v, e = .returned v) ∧ (J xs W' ∨ ∃ pre, pre <+: xs ∧ Jx pre W')
/-- how a round's body may be left -/
def roundR {α : Type} (B : Nat) (kt : TypeId → Bool) (I : List α → World → Prop) (Ix : Code → List α → World → Prop) (xs : List α) (W : World) : Exit → Act → World → Prop
  | .normal, _, W' => NK B W W' ∧ Kept kt W W' ∧ I xs W'
  | .ret, _, W' => NK B W W' ∧ Ix .ret xs W'
  | .exit id, _, W' => NK B W W' ∧ Ix (.exit id) xs W'
  | .goto t, _, W' => NK B W W' ∧ Ix (.goto t) xs W'
  | .panic _, _, _ => False
  | .outgrown, _, _ => False
def markD (D : Nat) : Deferred := { target := .collected D, args := #[] }
def yTmps (a : Act) (ps : Array Tmp) (vs : Array Value) : Array Value := (ps.zip vs).foldl (fun t (p, v) => t.setIfInBounds p v) a.tmps
theorem wp_rangeR {α : Type} {P : Program} {g : Operand} {ps : Array Tmp} {assign body : Code} {Q : Exit → Act → World → Prop} {a : Act} {w : World} {gf : FuncId} {lb : Array Value} (hg : a.eval g = .func (.func gf) #[] lb) (hfn : goFn P gf = true)
    {encs : α → Array Value} {kt : TypeId → Bool} {xs : List α} {w0 : World} (hit : Iter P gf lb encs kt xs w0) (hw0 : Kept kt w0 w) (hps : ∀ x, (encs x).size = ps.size)
    (I : List α → World → Prop) (Ix : Code → List α → World → Prop) (hI : ∀ s, Abide w.heap.size (I s)) (hIx : ∀ c s, Abide w.heap.size (Ix c s)) (h0 : I [] w) (Ax : α → Act → World → Prop) (hAx : ∀ x a', Abide w.heap.size (Ax x a'))
    (hassign : ∀ (l : Nat) (pre : List α) (x : α) (W : World) (K : Act → World → Prop), I pre W → pre ++ [x] <+: xs → w.heap.size ≤ W.heap.size → (∀ a' W', NK w.heap.size W W' → Kept kt W W' → I pre W' → Ax x a' W' → K a' W') →
      assign.wpIn (FW (some l)) 0 P (Exit.then K (fun _ _ _ => False)) { tmps := yTmps a ps (encs x), defers := [] } W)
    (hbody : ∀ (l : Nat) (pre : List α) (x : α) (a' : Act) (W : World), I pre W → Ax x a' W → pre ++ [x] <+: xs → w.heap.size ≤ W.heap.size → body.wpIn (FW (some l)) 0 P (roundR w.heap.size kt I Ix (pre ++ [x]) W) a' W)
    (hdone : ∀ (D : Nat) (W : World), w.heap.size ≤ D → I xs W → W.heap[D]? = some (.deferred (some [])) → Q .normal { a with defers := markD D :: a.defers } W)
    (hstop : ∀ (D : Nat) (c : Code) (pre : List α) (W : World), w.heap.size ≤ D → pre <+: xs → Ix c pre W → W.heap[D]? = some (.deferred (some [])) → c.wp P Q { a with defers := markD D :: a.defers } W) :
    (Code.rangeFunc g ps assign body).wp P Q a w := by
  refine (wpIn_wide (n := 0)).1 (wpIn_rangeFunc ?_)
  intro fn _
  obtain ⟨R, hR⟩ : ∃ R : LoopState → Option Code → Loop, R = fun st pe => { state := st, pending := pe, fn, tmps := a.tmps, params := ps, assign, body, defers := w.heap.size } := ⟨_, rfl⟩
  obtain ⟨W1, hW1⟩ : ∃ W1, (w.alloc (.deferred (some []))).alloc (.loop (R .ready none)) = W1 := ⟨_, rfl⟩
  have hs1 : W1.heap.size = w.heap.size + 2 := by rw [← hW1]; simp
  have hb1 : Below w.heap.size w W1 := by
    rw [← hW1]
    exact ⟨rfl, rfl, rfl, (by simp; omega), fun k hk => heap_two w _ _ k hk⟩
  have hL1 : W1.heap[w.heap.size + 1]? = some (.loop (R .ready none)) := by
    rw [← hW1]; have := heap_alloc_same (w.alloc (.deferred (some []))) (.loop (R .ready none)); simpa using this
  have hK1 : W1.heap[w.heap.size]? = some (.deferred (some [])) := by
    rw [← hW1, heap_alloc_lt _ _ (by simp)]; exact heap_alloc_same w _
  have hI1 : I [] W1 := hI [] _ _ h0 (.of_below hb1)
  have hfn' := hfn
  unfold goFn at hfn'
  cases hgf : P.funcs[gf]? with
  | none => simp [hgf] at hfn'
  | some f0 =>
    simp only [hgf, Bool.and_eq_true, Bool.not_eq_true'] at hfn'
    have hb : ¬ f0.body = none := by have := hfn'.1; intro hn; rw [hn] at this; cases this
    have hne : ¬ f0.name = "runtime.NumGoroutine" := by simpa using hfn'.2
    refine ⟨w.heap.size + 1, [markD w.heap.size], W1, { target := .fn (.func gf) lb, args := #[.func (.yield (w.heap.size + 1)) #[] #[]] }, W1, gf,
      #[.func (.yield (w.heap.size + 1)) #[] #[]] ++ lb, W1, ?_, ?_, ?_, ?_, (fun h => by cases h), ?_⟩
    · rw [← hW1, hR]; exact run_enterLoop_outer _ _ _ _ _
    · simp only [resolve, hg]
      simp [go_sem]
    · intro f' _; trivial
    · simp [invoke, callFunc, hgf, hne, hb]
    · refine callsIn_wide.2 ((hit (w.heap.size + 1)
        (fun pre W => I pre W ∧ W.heap[w.heap.size + 1]? = some (.loop (R .ready none)) ∧ W.heap[w.heap.size]? = some (.deferred (some [])))
        (fun pre W => ∃ c, Ix c pre W ∧ W.heap[w.heap.size + 1]? = some (.loop (R .done (some c))) ∧ W.heap[w.heap.size]? = some (.deferred (some [])))
        W1 (hw0.trans ((Turn.of_below (B := 0) hb1).kept kt))
        (fun s => ((hI s).mono (by omega)).and ((abide_obj (by omega)).and (abide_obj (by omega))))
        (fun s A B ⟨c, h1, h2, h3⟩ ht => ⟨c, (hIx c s).mono (by omega) _ _ h1 ht, abide_obj (by omega) _ _ h2 ht, abide_obj (by omega) _ _ h3 ht⟩)
        ?_ ⟨hI1, hL1, hK1⟩).mono ?_)
      · rintro pre x W ⟨hi, hl, hk⟩ hpx hsz
        have hy := run_yield (P := P) (args := encs x) hl (by rw [hR]; exact hps x)
        rw [hR] at hy
        refine ⟨fn, _, assign, body, hy, roundIn_of_wpIn (F := Fence.wide) (n := 0) trivial (hassign _ pre x W _ hi hpx (by omega) ?_)⟩
        clear hy
        intro a' Wa hnka hka hia hax
        have hla := hnka.same _ _ (by omega) hl rfl
        have hda := hnka.same _ _ (Nat.le_refl _) hk rfl
        have hlt := lt_of_heap hla
        refine ⟨_, run_beginRound hla (by rw [hR]), ?_⟩
        obtain ⟨W2, hW2⟩ : ∃ W2, Wa.putObj (w.heap.size + 1) (.loop { R .ready none with state := .busy }) = W2 := ⟨_, rfl⟩
        rw [hW2]
        have ht2 : Turn w.heap.size Wa W2 := by rw [← hW2]; exact Turn.put _ hla rfl (by omega)
        have hn2 : NK W1.heap.size Wa W2 := by rw [← hW2]; exact NK.put _ (by omega)
        have hl2 : W2.heap[w.heap.size + 1]? = some (.loop { R .ready none with state := .busy }) := by rw [← hW2]; exact World.putObj_heap_same hlt
        have hd2 : W2.heap[w.heap.size]? = some (.deferred (some [])) := by rw [← hW2]; exact (World.putObj_heap_other (by omega)).trans hda
        refine wpIn_mono (hbody _ pre x a' W2 (hI _ _ _ hia ht2) (hAx _ _ _ _ hax ht2) hpx (by have := ht2.size; have := hnka.size; omega)) ?_
        have fin : ∀ (jump : Option Code) (W3 : World), NK w.heap.size W2 W3 → ∃ W4, (Instr.endRound (w.heap.size + 1) jump).run P W3 = .ok (.bool jump.isNone) W4 ∧ Turn w.heap.size W3 W4 ∧
            W4.heap[w.heap.size + 1]? = some (.loop (R (if jump.isNone then .ready else .done) jump)) ∧ W4.heap[w.heap.size]? = some (.deferred (some [])) ∧ NK W1.heap.size W W4 := by
          intro jump W3 hk3
          have hl3 := hk3.same _ _ (by omega) hl2 rfl
          have hr := run_endRound (P := P) jump hl3
          refine ⟨_, hr, Turn.put _ hl3 rfl (by omega), ?_, ?_, ?_⟩
          · rw [World.putObj_heap_same (lt_of_heap hl3), hR]
          · exact (World.putObj_heap_other (by omega)).trans (hk3.same _ _ (Nat.le_refl _) hd2 rfl)
          · exact (hnka.mono (by omega)).trans (hn2.trans ((hk3.mono (by omega)).trans (NK.put _ (by omega))))
        rintro e a3 W3 hp
        cases e with
        | normal =>
          obtain ⟨hn3, hk3, hi3⟩ := hp
          obtain ⟨W4, hr, ht4, hl4, hd4, hn4⟩ := fin none W3 hn3
          exact ⟨_, W4, hr, .inl ⟨rfl, ⟨hI _ _ _ hi3 ht4, hl4, hd4⟩, hka.trans ((ht2.kept kt).trans (hk3.trans (ht4.kept kt))), hn4⟩⟩
        | ret =>
          obtain ⟨hn3, hi3⟩ := hp
          obtain ⟨W4, hr, ht4, hl4, hd4, hn4⟩ := fin (some .ret) W3 hn3
          exact ⟨_, W4, hr, .inr ⟨rfl, ⟨.ret, hIx _ _ _ _ hi3 ht4, hl4, hd4⟩, hn4⟩⟩
        | exit id =>
          obtain ⟨hn3, hi3⟩ := hp
          obtain ⟨W4, hr, ht4, hl4, hd4, hn4⟩ := fin (some (.exit id)) W3 hn3
          exact ⟨_, W4, hr, .inr ⟨rfl, ⟨.exit id, hIx _ _ _ _ hi3 ht4, hl4, hd4⟩, hn4⟩⟩
        | goto t =>
          obtain ⟨hn3, hi3⟩ := hp
          obtain ⟨W4, hr, ht4, hl4, hd4, hn4⟩ := fin (some (.goto t)) W3 hn3
          exact ⟨_, W4, hr, .inr ⟨rfl, ⟨.goto t, hIx _ _ _ _ hi3 ht4, hl4, hd4⟩, hn4⟩⟩
        | panic ch => exact hp.elim
        | outgrown => exact hp.elim
      · rintro e W2 ⟨⟨v, rfl⟩, (⟨hi, hl, hk⟩ | ⟨pre, hpx, c, hi, hl, hk⟩)⟩
        · have hend := run_endLoop (P := P) hl (by rw [hR]; exact fun h => by cases h)
          have hpn : (R .ready none).pending = none := by rw [hR]
          rw [hpn] at hend
          exact ⟨none, _, hend, hdone _ _ (Nat.le_refl _) (hI _ _ _ hi (Turn.put _ hl rfl (by omega))) ((World.putObj_heap_other (by omega)).trans hk)⟩
        · have hend := run_endLoop (P := P) hl (by rw [hR]; exact fun h => by cases h)
          have hpn : (R .done (some c)).pending = some c := by rw [hR]
          rw [hpn] at hend
          exact ⟨some c, _, hend, (wpIn_wide (n := 0)).2 (hstop _ c pre _ (Nat.le_refl _) hpx (hIx _ _ _ _ hi (Turn.put _ hl rfl (by omega))) ((World.putObj_heap_other (by omega)).trans hk))⟩
end Go.Proofs.Ytnppgaohfegloaa
