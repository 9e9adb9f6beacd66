/-
  Closed facts of the translation (sizes, kinds of types, which functions have bodies), and the loop rule over abstract states.
-/
import Derived.Test.YtnbdeajjfhlmnaaRows
import Derived.Test.YtnbdeajjfhlmnaaBv
import Derived.Deep.LoopGhost
namespace Go.Proofs.Ytnbdeajjfhlmnaa
open Go.RowKit

theorem hmix : Try.prog.follows .mixedOrders = true := by kernel_rfl
theorem sz24 : tSize Try.prog 24 = some 32 := by kernel_rfl
theorem sz41 : tSize Try.prog 41 = some 5 := by kernel_rfl
theorem sz60 : tSize Try.prog 60 = some 128 := by kernel_rfl
theorem sz55 : tSize Try.prog 55 = some 10 := by kernel_rfl
theorem sz53 : tSize Try.prog 53 = some 2 := by kernel_rfl
theorem sz5 : tSize Try.prog 5 = some 1 := by kernel_rfl
theorem sz39 : tSize Try.prog 39 = some 1 := by kernel_rfl
theorem sz3 : tSize Try.prog 3 = some 1 := by kernel_rfl
theorem agg24 : tAgg Try.prog 24 = true := by kernel_rfl
theorem agg41 : tAgg Try.prog 41 = true := by kernel_rfl
theorem agg60 : tAgg Try.prog 60 = true := by kernel_rfl
theorem agg55 : tAgg Try.prog 55 = true := by kernel_rfl
theorem agg53 : tAgg Try.prog 53 = true := by kernel_rfl
theorem one5 : tOne Try.prog 5 = true := by kernel_rfl
theorem one39 : tOne Try.prog 39 = true := by kernel_rfl
theorem one3 : tOne Try.prog 3 = true := by kernel_rfl
theorem bv0_lit : bv 0 = .agg #[.int .u8 0, .int .u8 0, .int .u8 0, .int .u8 0, .int .u8 0, .int .u8 0, .int .u8 0, .int .u8 0, .int .u8 0, .int .u8 0, .int .u8 0, .int .u8 0, .int .u8 0, .int .u8 0, .int .u8 0, .int .u8 0, .int .u8 0, .int .u8 0, .int .u8 0, .int .u8 0, .int .u8 0, .int .u8 0, .int .u8 0, .int .u8 0, .int .u8 0, .int .u8 0, .int .u8 0, .int .u8 0, .int .u8 0, .int .u8 0, .int .u8 0, .int .u8 0] := by kernel_rfl
theorem zero24 : tZero Try.prog 24 = some (bv 0) := by kernel_rfl
theorem is32 : Is32 Try.prog 24 := ⟨⟨5, by kernel_rfl, by kernel_rfl, by kernel_rfl⟩, by kernel_rfl, by kernel_rfl⟩

/-- Five numbers of 51 bits and a little. -/
structure L5 where
  a0 : Nat
  a1 : Nat
  a2 : Nat
  a3 : Nat
  a4 : Nat

def lvc (x : L5) : Array Value := #[.int .u64 x.a0, .int .u64 x.a1, .int .u64 x.a2, .int .u64 x.a3, .int .u64 x.a4]
def lv (x : L5) : Value := .agg (lvc x)
def L5.get (x : L5) : Nat → Nat | 0 => x.a0 | 1 => x.a1 | 2 => x.a2 | 3 => x.a3 | _ => x.a4
def L5.set (x : L5) (k b : Nat) : L5 := ⟨if k = 0 then b else x.a0, if k = 1 then b else x.a1, if k = 2 then b else x.a2, if k = 3 then b else x.a3, if k = 4 then b else x.a4⟩
theorem lvc_get (x : L5) (k : Nat) (hk : k < 5) : (lvc x)[k]? = some (.int .u64 (x.get k)) := by
  have : k = 0 ∨ k = 1 ∨ k = 2 ∨ k = 3 ∨ k = 4 := by omega
  rcases this with rfl | rfl | rfl | rfl | rfl <;> rfl
theorem lvc_set (x : L5) (k b : Nat) (hk : k < 5) : (lvc x).setIfInBounds k (.int .u64 b) = lvc (x.set k b) := by
  have : k = 0 ∨ k = 1 ∨ k = 2 ∨ k = 3 ∨ k = 4 := by omega
  rcases this with rfl | rfl | rfl | rfl | rfl <;> rfl
@[simp] theorem size_lvc (x : L5) : (lvc x).size = 5 := rfl
theorem one_lvc (x : L5) : (lvc x).all (·.oneCell') = true := by simp [lvc, Value.oneCell']
theorem zero41 : tZero Try.prog 41 = some (lv ⟨0, 0, 0, 0, 0⟩) := by kernel_rfl

theorem fn42 : goFn Try.prog 42 = true := by kernel_rfl
theorem fn43 : goFn Try.prog 43 = true := by kernel_rfl

/-- A loop of n rounds over abstract states. -/
theorem rep_loop {P : Program} {N : Nat} {ρ : Nat → Nat} {F : Fr} {a : Act} {w : World} {body : Code} {Q : Exit → Act → World → Prop} (n : Nat) (S : Nat → St) (h0 : Rep N (S 0) ρ F a w)
    (round : ∀ k ρ a w, k ≤ n → Rep N (S k) ρ F a w → body.wp P (Exit.then (fun a' w' => ∃ ρ', k < n ∧ Rep N (S (k + 1)) ρ' F a' w') Q) a w) : (Code.loop body).wp P Q a w := by
  refine wp_loop_ghost (fun m a w => ∃ k ρ, k + m = n ∧ Rep N (S k) ρ F a w) n ⟨0, ρ, by omega, h0⟩ ?_
  rintro m a w ⟨k, ρ, hk, h⟩
  refine wp_mono (round k ρ a w (by omega) h) ?_
  intro e a' w' hq
  cases e with
  | normal => obtain ⟨ρ', hlt, h'⟩ := hq; exact ⟨m - 1, by omega, k + 1, ρ', by omega, h'⟩
  | exit id => exact hq
  | goto l => exact hq
  | ret => exact hq
  | panic ch => exact hq
  | outgrown => exact hq

theorem seq_dag {P : Program} {id : Nat} {l : List Oper} {draw : Bool} {c : Code} {N : Nat} {S : St} {ρ : Nat → Nat} {F : Fr} {a : Act} {w : World} {Q : Exit → Act → World → Prop} {es : List Eff}
    (hm : P.follows .mixedOrders = true) (hrep : Rep N S ρ F a w) (hw : Walk P F l.toArray S l es) (hck : check N S l es = true)
    (hQ : ∀ ρ' a' w', Rep N (S.after l es) ρ' F a' w' → c.wp P Q a' w') : (Code.seq (Code.region id l.toArray draw) c).wp P Q a w :=
  wp_seq (region_dag hm hrep hw hck hQ)

theorem seq_dag' {P : Program} {id : Nat} {l : List Oper} {draw : Bool} {c : Code} {N : Nat} {S : St} {ρ : Nat → Nat} {F : Fr} {a : Act} {w : World} {Q : Exit → Act → World → Prop} {es : List Eff}
    (hm : P.follows .mixedOrders = true) (hrep : Rep N S ρ F a w) (hw : Walk P F l.toArray S l es) (hck : check N S l es = true)
    (hQ : ∀ ρ' a' w', (∀ i b, S.blk i = some b → ρ' i = ρ i) → Rep N (S.after l es) ρ' F a' w' → c.wp P Q a' w') : (Code.seq (Code.region id l.toArray draw) c).wp P Q a w :=
  wp_seq (region_dag' hm hrep hw hck hQ)
theorem rep_loop' {P : Program} {N : Nat} {ρ : Nat → Nat} {F : Fr} {a : Act} {w : World} {body : Code} {Q : Exit → Act → World → Prop} (Z : (Nat → Nat) → Prop) (n : Nat) (S : Nat → St) (hz : Z ρ) (h0 : Rep N (S 0) ρ F a w)
    (round : ∀ k ρ a w, k ≤ n → Z ρ → Rep N (S k) ρ F a w → body.wp P (Exit.then (fun a' w' => ∃ ρ', k < n ∧ Z ρ' ∧ Rep N (S (k + 1)) ρ' F a' w') Q) a w) : (Code.loop body).wp P Q a w := by
  refine wp_loop_ghost (fun m a w => ∃ k ρ, k + m = n ∧ Z ρ ∧ Rep N (S k) ρ F a w) n ⟨0, ρ, by omega, hz, h0⟩ ?_
  rintro m a w ⟨k, ρ, hk, hz, h⟩
  refine wp_mono (round k ρ a w (by omega) hz h) ?_
  intro e a' w' hq
  cases e with
  | normal => obtain ⟨ρ', hlt, hz', h'⟩ := hq; exact ⟨m - 1, by omega, k + 1, ρ', by omega, hz', h'⟩
  | exit id => exact hq
  | goto l => exact hq
  | ret => exact hq
  | panic ch => exact hq
  | outgrown => exact hq

/-! ### ways through code -/
section
variable {P : Program} {Q : Exit → Act → World → Prop} {a : Act} {w : World} {N : Nat} {S : St} {ρ : Nat → Nat} {F : Fr}
theorem Rep.eval_tmp (h : Rep N S ρ F a w) {t : Tmp} {av : AV} (hs : S.slot t = some av) : a.eval (.tmp t) = av.to ρ := by
  have := h.slots t av hs
  simp [Act.eval, this]
theorem if_true' (h : Rep N S ρ F a w) {t : Tmp} {x y : Code} (hs : S.slot t = some (.v (.bool true))) (hx : x.wp P Q a w) : (Code.cond (.tmp t) x y).wp P Q a w := wp_cond_true (h.eval_tmp hs) hx
theorem if_false' (h : Rep N S ρ F a w) {t : Tmp} {x y : Code} (hs : S.slot t = some (.v (.bool false))) (hy : y.wp P Q a w) : (Code.cond (.tmp t) x y).wp P Q a w := wp_cond_false (h.eval_tmp hs) hy
theorem go_on (h : Rep N S ρ F a w) {t : Tmp} {y c : Code} (hs : S.slot t = some (.v (.bool true))) (hc : c.wp P Q a w) : (Code.seq (Code.cond (.tmp t) .skip y) c).wp P Q a w :=
  wp_seq (if_true' h hs (wp_skip hc))
theorem pass_by (h : Rep N S ρ F a w) {t : Tmp} {x c : Code} (hs : S.slot t = some (.v (.bool false))) (hc : c.wp P Q a w) : (Code.seq (Code.cond (.tmp t) x .skip) c).wp P Q a w :=
  wp_seq (if_false' h hs (wp_skip hc))
theorem at_exit {K : Act → World → Prop} {i : Nat} (h : Q .normal a w) : Exit.then K (Exit.inBlock i Q) (.exit i) a w := by
  simp only [Exit.then, Exit.inBlock, if_true]; exact h
theorem at_exit' {K K' : Act → World → Prop} {i : Nat} (h : Q .normal a w) : Exit.then K (Exit.then K' (Exit.inBlock i Q)) (.exit i) a w := by
  simp only [Exit.then, Exit.inBlock, if_true]; exact h
theorem leave (h : Rep N S ρ F a w) {t : Tmp} {i : Nat} {x c : Code} {K : Act → World → Prop} (hs : S.slot t = some (.v (.bool false))) (hq : Q .normal a w) :
    (Code.seq (Code.cond (.tmp t) x (.exit i)) c).wp P (Exit.then K (Exit.inBlock i Q)) a w := wp_seq (if_false' h hs (wp_exit (at_exit (K := c.wp P (Exit.then K (Exit.inBlock i Q))) (by simpa [Exit.then, Exit.inBlock] using hq))))
theorem seq_block {i : Nat} {b c : Code} (h : b.wp P (Exit.inBlock i (Exit.then (c.wp P Q) Q)) a w) : (Code.seq (Code.block i b) c).wp P Q a w := wp_seq (wp_block h)
theorem Exit.block_normal {i : Nat} (h : Q .normal a w) : Exit.inBlock i Q .normal a w := h
theorem Exit.then_normal {K : Act → World → Prop} (h : K a w) : Exit.then K Q .normal a w := h
end

/-! ### from one state to a plainer one -/
def slotsIn (S : St) : List (Nat × AV) → Prop
  | [] => True
  | p :: r => S.slot p.1 = some p.2 ∧ slotsIn S r
def memIn (S : St) : List (Nat × Blk) → Prop
  | [] => True
  | p :: r => S.blk p.1 = some p.2 ∧ memIn S r
def liveB (T : St) : Bool := T.slots.all fun p => match p.2.id? with | some i => (T.blk i).isSome | none => true

theorem lookup_mem {β : Type} {l : List (Nat × β)} {k : Nat} {v : β} (h : l.lookup k = some v) : (k, v) ∈ l := by
  induction l with
  | nil => simp at h
  | cons p l ih =>
    obtain ⟨j, u⟩ := p
    rw [List.lookup_cons] at h
    by_cases hk : (k == j) = true
    · simp only [hk, Option.some.injEq] at h
      have : k = j := by simpa using hk
      subst this; subst h; simp
    · have hk' : (k == j) = false := by simpa using hk
      simp only [hk'] at h
      exact List.mem_cons_of_mem _ (ih h)

theorem Rep.plain {N : Nat} {S : St} {ρ : Nat → Nat} {F : Fr} {a : Act} {w : World} (h : Rep N S ρ F a w) (T : St) (hs : slotsIn S T.slots) (hm : memIn S T.mem) (hl : liveB T = true) :
    Rep N T ρ F a w := by
  have hs' : ∀ (l : List (Nat × AV)), slotsIn S l → ∀ p ∈ l, S.slot p.1 = some p.2 := by
    intro l
    induction l with
    | nil => intro _ p hp; cases hp
    | cons q l ih => intro h p hp; rcases List.mem_cons.1 hp with rfl | hp; exact h.1; exact ih h.2 p hp
  have hm' : ∀ (l : List (Nat × Blk)), memIn S l → ∀ p ∈ l, S.blk p.1 = some p.2 := by
    intro l
    induction l with
    | nil => intro _ p hp; cases hp
    | cons q l ih => intro h p hp; rcases List.mem_cons.1 hp with rfl | hp; exact h.1; exact ih h.2 p hp
  have e1 : ∀ k av, T.slot k = some av → S.slot k = some av := fun k av hk => hs' _ hs _ (lookup_mem hk)
  have e2 : ∀ i b, T.blk i = some b → S.blk i = some b := fun i b hi => hm' _ hm _ (lookup_mem hi)
  refine ⟨h.defers, h.size, fun k av hk => h.slots k av (e1 k av hk), fun i b hi => h.mem i b (e2 i b hi), fun i b hi => h.own i b (e2 i b hi),
    fun i j b c hi hj => h.inj i j b c (e2 i b hi) (e2 j c hj), fun k av i hk hi => ?_, h.keeps⟩
  have := List.all_eq_true.1 hl _ (lookup_mem hk)
  simp only [hi] at this
  exact Option.isSome_iff_exists.1 this

/-- The start of a call: the parameters lie in the first slots. -/
theorem Rep.start {N : Nat} (vs : List Value) (rest : List Value) (w : World) (hN : vs.length + rest.length = N) :
    Rep N ⟨(vs.zipIdx.map fun p => (p.2, AV.v p.1)), []⟩ (fun _ => 0) { W := w } ⟨(vs ++ rest).toArray, []⟩ w := by
  refine ⟨rfl, by simp [hN], fun k av hk => ?_, fun i b hi => by simp [St.blk] at hi, fun i b hi => by simp [St.blk] at hi, fun i j b c hi => by simp [St.blk] at hi, fun k av i hk hi => ?_, Keeps.refl _⟩
  · have := lookup_mem hk
    simp only [List.mem_map] at this
    obtain ⟨⟨v, j⟩, hm, he⟩ := this
    cases he
    have := List.mem_zipIdx_iff_getElem?.1 hm
    have hlt : j < vs.length := (List.getElem?_eq_some_iff.1 this).1
    simp [List.getElem?_append_left hlt, this]
  · have := lookup_mem hk
    simp only [List.mem_map] at this
    obtain ⟨⟨v, j⟩, hm, he⟩ := this
    cases he
    cases hi

theorem Rep.below {N : Nat} {S : St} {ρ : Nat → Nat} {W : World} {a : Act} {w : World} (h : Rep N S ρ { W := W } a w) : Below W.heap.size W w := h.keeps.below

/-- The start of a call that is handed a block to write. -/
theorem Rep.start1 {N : Nat} (b off : Nat) (blk : Blk) (vs : List Value) (rest : List Value) (w : World) (hb : w.heap[b]? = some blk.obj) (hN : 1 + vs.length + rest.length = N) :
    Rep N ⟨(0, .p 0 off) :: (vs.zipIdx 1).map (fun p => (p.2, AV.v p.1)), [(0, blk)]⟩ (fun _ => b) { W := w, M := fun k => k = b } ⟨(.pointer (some ⟨b, off, none⟩) :: (vs ++ rest)).toArray, []⟩ w := by
  have hblk : ∀ i x, St.blk ⟨(0, .p 0 off) :: (vs.zipIdx 1).map (fun p => (p.2, AV.v p.1)), [(0, blk)]⟩ i = some x → i = 0 ∧ x = blk := by
    intro i x hi
    have := lookup_mem hi
    simp at this
    exact this
  have hslot : ∀ k av, St.slot ⟨(0, .p 0 off) :: (vs.zipIdx 1).map (fun p => (p.2, AV.v p.1)), [(0, blk)]⟩ k = some av → (k = 0 ∧ av = .p 0 off) ∨ ∃ v, av = .v v ∧ 1 ≤ k ∧ vs[k - 1]? = some v := by
    intro k av hk
    have := lookup_mem hk
    simp only [List.mem_cons, Prod.mk.injEq, List.mem_map] at this
    rcases this with ⟨h1, h2⟩ | ⟨⟨v, j⟩, hm, he⟩
    · exact .inl ⟨h1, h2⟩
    · obtain ⟨he1, he2⟩ := he
      subst he1; subst he2
      have h3 := List.mk_mem_zipIdx_iff_le_and_getElem?_sub.1 hm
      exact .inr ⟨v, rfl, h3.1, h3.2⟩
  refine ⟨rfl, ?_, fun k av hk => ?_, fun i x hi => ?_, fun i x hi => .inr rfl, fun i j x c hi hj _ => ?_, fun k av i hk hi => ?_, Keeps.refl _⟩
  · simp; omega
  · rcases hslot k av hk with ⟨rfl, rfl⟩ | ⟨v, rfl, h1, h2⟩
    · simp
    · obtain ⟨k, rfl⟩ : ∃ j, k = j + 1 := ⟨k - 1, by omega⟩
      have hlt : k < vs.length := (List.getElem?_eq_some_iff.1 h2).1
      simp only [Nat.add_sub_cancel] at h2
      simp [List.getElem?_append_left hlt, h2]
  · obtain ⟨rfl, rfl⟩ := hblk i x hi; exact hb
  · rw [(hblk i x hi).1, (hblk j c hj).1]
  · rcases hslot k av hk with ⟨rfl, rfl⟩ | ⟨v, rfl, _, _⟩
    · cases hi; exact ⟨blk, rfl⟩
    · cases hi

/-- What a call did that wrote just one block of those that were there. -/
structure Wrote (w w' : World) (b : Nat) (blk : Blk) : Prop where
  os : w'.os = w.os
  tape : w'.tape = w.tape
  output : w'.output = w.output
  size : w.heap.size ≤ w'.heap.size
  keep : ∀ k, k < w.heap.size → k ≠ b → w'.heap[k]? = w.heap[k]?
  wrote : w'.heap[b]? = some blk.obj

theorem Rep.wrote {N : Nat} {S : St} {ρ : Nat → Nat} {w : World} {b : Nat} {a : Act} {w' : World} (h : Rep N S ρ { W := w, M := fun k => k = b } a w') {blk : Blk} (h0 : ρ 0 = b) (hb : S.blk 0 = some blk) : Wrote w w' b blk :=
  ⟨h.keeps.os, h.keeps.tape, h.keeps.output, h.keeps.size, fun k hk hne => h.keeps.block k hk hne, by rw [← h0]; exact h.mem 0 blk hb⟩

/-- The end of a call whose result lies in a block of its own. -/
theorem Rep.result {P : Program} {N : Nat} {S : St} {ρ : Nat → Nat} {F : Fr} {a : Act} {w : World} (h : Rep N S ρ F a w) {fn : Func} {p : Tmp} {t : TypeId} {n i : Nat} {b : Blk} {R : Ending → World → Prop}
    (hfn : fn.results = #[.cell p t]) (hs : S.slot p = some (.p i 0)) (hb : S.blk i = some b) (ht : tAgg P t = true) (hn : tSize P t = some n) (hsz : b.cells.size = n)
    (hR : R (.returned (.agg b.cells)) w) : bodyPost P fn R .ret a w := by
  refine ⟨h.defers, .agg b.cells, ?_, hR⟩
  have hp := h.slots _ _ hs
  have hm := h.mem _ _ hb
  have hl := run_loadAgg (P := P) (w := w) (g := ρ i) (off := 0) (cs := b.cells) ht hn hsz (fun k _ => by rw [cell_of_obj hm]; simp)
  simp [results, hfn, hp, asAddr, hl]
/-- .. whose result lies in a slot. -/
theorem Rep.result_tmp {P : Program} {N : Nat} {S : St} {ρ : Nat → Nat} {F : Fr} {a : Act} {w : World} (h : Rep N S ρ F a w) {fn : Func} {p : Tmp} {v : Value} {R : Ending → World → Prop}
    (hfn : fn.results = #[.tmp p]) (hs : S.slot p = some (.v v)) (hR : R (.returned v) w) : bodyPost P fn R .ret a w := by
  refine ⟨h.defers, v, ?_, hR⟩
  have hp := h.slots _ _ hs
  simp [results, hfn, hp]

section
variable {P : Program} {F : Fr} {ops : Array Oper} {S : St} {o : Oper}
theorem Out.ofBelow {ρ : Nat → Nat} {av : AV} {rd : List Nat} {w w' : World} (h : Below w.heap.size w w') : Out ρ { val := av, rd := rd } w (av.to ρ) w' 0 :=
  ⟨rfl, h.os, h.tape, h.output, h.size, fun b hb _ => h.block b hb, (fun _ h => by cases h), (fun _ h => by cases h)⟩

/-- A call that makes memory at the most, and hands back a plain value. -/
theorem ok_call_val (hw : want ops S o = some true) {f : FuncId} {args : Array Operand} {ts : Array TypeId} (ho : o.op = .call { callee := .value (.func f), args := args, argTypes := ts })
    (hf : goFn P f = true) (avs : List AV) (ha : args.toList.mapM S.av = some avs) {v : Value} {rd : List Nat}
    (hc : ∀ (ρ : Nat → Nat) (w : World), (∀ i ∈ rd, ∀ b, S.blk i = some b → w.heap[ρ i]? = some b.obj) → Keeps F w →
      Calls P f (avs.map (·.to ρ)).toArray w fun en w' => en = .returned v ∧ Below w.heap.size w w') : OpOK P F ops o S { val := .v v, rd := rd } :=
  ok_call hw ho hf avs ha fun ρ w h1 h2 => (hc ρ w h1 h2).mono fun en w' h => by
    obtain ⟨rfl, hb⟩ := h
    exact ⟨_, 0, rfl, Out.ofBelow hb⟩

/-! ### the same, at arrays of 32 bytes and at limbs -/
theorem o_load24 (hw : want ops S o = some true) {x : Operand} (ho : o.op = .load 24 x) {i n t : Nat} (hx : S.av x = some (.p i 0)) (hb : S.blk i = some ⟨bvc n, t⟩) :
    OpOK Try.prog F ops o S { val := .v (bv n), rd := [i] } := by rw [bv_def]; exact ok_load_whole hw ho hx hb agg24 sz24 (size_bvc n)
theorem o_store24 (hw : want ops S o = some true) {x y : Operand} (ho : o.op = .store 24 x y) {i n m t : Nat} (hx : S.av x = some (.p i 0)) (hy : S.av y = some (.v (bv n))) (hb : S.blk i = some ⟨bvc m, t⟩) :
    OpOK Try.prog F ops o S { val := .v undef, wr := some (i, ⟨bvc n, t⟩), rd := [i] } := ok_store_whole hw ho hx (by rw [← bv_def]; exact hy) hb sz24 (size_bvc n) (one_bvc n) (size_bvc m)
theorem o_alloc24 (i : Nat) (hw : want ops S o = some true) (ho : o.op = .alloc 24) : OpOK Try.prog F ops o S { val := .p i 0, new := some (i, ⟨bvc 0, 24⟩) } := by rw [← cells_bv]; exact ok_alloc i hw ho zero24
theorem o_box24 (i : Nat) (hw : want ops S o = some true) {x : Operand} (ho : o.op = .box 24 x) {n : Nat} (hx : S.av x = some (.v (bv n))) : OpOK Try.prog F ops o S { val := .p i 0, new := some (i, ⟨bvc n, 24⟩) } := by rw [← cells_bv]; exact ok_box i hw ho hx
theorem o_eql24 (hw : want ops S o = some true) {x y : Operand} {t' : TypeId} (ho : o.op = .binOp .eql 24 x y t') {n m : Nat} (hx : S.av x = some (.v (bv n))) (hy : S.av y = some (.v (bv m)))
    (hn : n < 2 ^ 256) (hm : m < 2 ^ 256) {b : Bool} (hb : decide (n = m) = b) : OpOK Try.prog F ops o S { val := .v (.bool b) } := ok_eql hw ho hx hy is32 hn hm hb
theorem o_neq24 (hw : want ops S o = some true) {x y : Operand} {t' : TypeId} (ho : o.op = .binOp .neq 24 x y t') {n m : Nat} (hx : S.av x = some (.v (bv n))) (hy : S.av y = some (.v (bv m)))
    (hn : n < 2 ^ 256) (hm : m < 2 ^ 256) {b : Bool} (hb : decide (n ≠ m) = b) : OpOK Try.prog F ops o S { val := .v (.bool b) } := ok_neq hw ho hx hy is32 hn hm hb
theorem o_load41 (hw : want ops S o = some true) {x : Operand} (ho : o.op = .load 41 x) {i t : Nat} {l : L5} (hx : S.av x = some (.p i 0)) (hb : S.blk i = some ⟨lvc l, t⟩) :
    OpOK Try.prog F ops o S { val := .v (lv l), rd := [i] } := ok_load_whole hw ho hx hb agg41 sz41 (size_lvc l)
theorem o_store41 (hw : want ops S o = some true) {x y : Operand} (ho : o.op = .store 41 x y) {i t : Nat} {l m : L5} (hx : S.av x = some (.p i 0)) (hy : S.av y = some (.v (lv l))) (hb : S.blk i = some ⟨lvc m, t⟩) :
    OpOK Try.prog F ops o S { val := .v undef, wr := some (i, ⟨lvc l, t⟩), rd := [i] } := ok_store_whole hw ho hx hy hb sz41 (size_lvc l) (one_lvc l) (size_lvc m)
theorem o_alloc41 (i : Nat) (hw : want ops S o = some true) (ho : o.op = .alloc 41) : OpOK Try.prog F ops o S { val := .p i 0, new := some (i, ⟨lvc ⟨0, 0, 0, 0, 0⟩, 41⟩) } := ok_alloc i hw ho zero41
theorem o_box41 (i : Nat) (hw : want ops S o = some true) {x : Operand} (ho : o.op = .box 41 x) {l : L5} (hx : S.av x = some (.v (lv l))) : OpOK Try.prog F ops o S { val := .p i 0, new := some (i, ⟨lvc l, 41⟩) } := ok_box i hw ho hx
theorem o_load39 (hw : want ops S o = some true) {x : Operand} (ho : o.op = .load 39 x) {i k t : Nat} {l : L5} (hx : S.av x = some (.p i k)) (hb : S.blk i = some ⟨lvc l, t⟩) (hk : k < 5) :
    OpOK Try.prog F ops o S { val := .v (.int .u64 (l.get k)), rd := [i] } := ok_load_cell hw ho hx hb one39 (lvc_get l k hk)
theorem o_store39 (hw : want ops S o = some true) {x y : Operand} (ho : o.op = .store 39 x y) {i k t b : Nat} {l : L5} (hx : S.av x = some (.p i k)) (hy : S.av y = some (.v (.int .u64 b)))
    (hb : S.blk i = some ⟨lvc l, t⟩) (hk : k < 5) : OpOK Try.prog F ops o S { val := .v undef, wr := some (i, ⟨lvc (l.set k b), t⟩), rd := [i] } := by
  rw [← lvc_set l k b hk]
  exact ok_store_cell hw ho hx hy hb sz39 rfl (by simp only [size_lvc]; exact hk)
theorem Rep.result24 {N : Nat} {ρ : Nat → Nat} {a : Act} {w : World} (h : Rep N S ρ F a w) {fn : Func} {p : Tmp} {n i t : Nat} {R : Ending → World → Prop}
    (hfn : fn.results = #[.cell p 24]) (hs : S.slot p = some (.p i 0)) (hb : S.blk i = some ⟨bvc n, t⟩) (hR : R (.returned (bv n)) w) : bodyPost Try.prog fn R .ret a w :=
  h.result hfn hs hb agg24 sz24 (size_bvc n) (by rw [← bv_def]; exact hR)
theorem Rep.result41 {N : Nat} {ρ : Nat → Nat} {a : Act} {w : World} (h : Rep N S ρ F a w) {fn : Func} {p : Tmp} {i t : Nat} {l : L5} {R : Ending → World → Prop}
    (hfn : fn.results = #[.cell p 41]) (hs : S.slot p = some (.p i 0)) (hb : S.blk i = some ⟨lvc l, t⟩) (hR : R (.returned (lv l)) w) : bodyPost Try.prog fn R .ret a w :=
  h.result hfn hs hb agg41 sz41 (size_lvc l) hR
end
attribute [irreducible] lv lvc
end Go.Proofs.Ytnbdeajjfhlmnaa
