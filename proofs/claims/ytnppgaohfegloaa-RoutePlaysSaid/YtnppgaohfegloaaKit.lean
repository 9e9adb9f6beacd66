/-
  Loops, ways through code, the start and the end of a call, operations on numbers, over abstract states.
-/
import Derived.Test.YtnppgaohfegloaaRows
import Derived.Test.YtnppgaohfegloaaOps
import Derived.Deep.LoopGhost
import Derived.Laws.Append
namespace Go.Proofs.Ytnppgaohfegloaa
open Go.RowKit

theorem hmix : Try.prog.follows .mixedOrders = true := by kernel_rfl
/-- A loop of n rounds over abstract states. -/
theorem rep_loop {P : Program} {N : Nat} {ρ : Pl} {F : Fr} {a : Act} {w : World} {body : Code} {Q : Exit → Act → World → Prop} (n : Nat) (S : Nat → St) (h0 : Rep N (S 0) ρ F a w)
    (round : ∀ k ρ a w, k ≤ n → Rep N (S k) ρ F a w → body.wp P (Exit.then (fun a' w' => ∃ ρ', k < n ∧ Rep N (S (k + 1)) ρ' F a' w') Q) a w) : (Code.loop body).wp P Q a w := by
  refine wp_loop_ghost (fun m a w => ∃ k ρ, k + m = n ∧ Rep N (S k) ρ F a w) n ⟨0, ρ, by omega, h0⟩ ?_
  rintro m a w ⟨k, ρ, hk, h⟩
  refine wp_mono (round k ρ a w (by omega) h) ?_
  intro e a' w' hq
  cases e with
  | normal => obtain ⟨ρ', hlt, h'⟩ := hq; exact ⟨m - 1, by omega, k + 1, ρ', by omega, h'⟩
  | exit id => exact hq
  | goto l => exact hq
  | ret => exact hq
  | panic ch => exact hq
  | outgrown => exact hq

theorem seq_dag {P : Program} {id : Nat} {l : List Oper} {draw : Bool} {c : Code} {N : Nat} {S : St} {ρ : Pl} {F : Fr} {a : Act} {w : World} {Q : Exit → Act → World → Prop} {es : List Eff}
    (hm : P.follows .mixedOrders = true) (hrep : Rep N S ρ F a w) (hw : Walk P F l.toArray S l es) (hck : check N S l es = true)
    (hQ : ∀ ρ' a' w', Rep N (S.after l es) ρ' F a' w' → c.wp P Q a' w') : (Code.seq (Code.region id l.toArray draw) c).wp P Q a w :=
  wp_seq (region_dag hm hrep hw hck hQ)

theorem seq_dag' {P : Program} {id : Nat} {l : List Oper} {draw : Bool} {c : Code} {N : Nat} {S : St} {ρ : Pl} {F : Fr} {a : Act} {w : World} {Q : Exit → Act → World → Prop} {es : List Eff}
    (hm : P.follows .mixedOrders = true) (hrep : Rep N S ρ F a w) (hw : Walk P F l.toArray S l es) (hck : check N S l es = true)
    (hQ : ∀ ρ' a' w', (∀ i b, S.blk i = some b → ρ' i = ρ i) → Rep N (S.after l es) ρ' F a' w' → c.wp P Q a' w') : (Code.seq (Code.region id l.toArray draw) c).wp P Q a w :=
  wp_seq (region_dag' hm hrep hw hck hQ)
theorem rep_loop' {P : Program} {N : Nat} {ρ : Pl} {F : Fr} {a : Act} {w : World} {body : Code} {Q : Exit → Act → World → Prop} (Z : Pl → Prop) (n : Nat) (S : Nat → St) (hz : Z ρ) (h0 : Rep N (S 0) ρ F a w)
    (round : ∀ k ρ a w, k ≤ n → Z ρ → Rep N (S k) ρ F a w → body.wp P (Exit.then (fun a' w' => ∃ ρ', k < n ∧ Z ρ' ∧ Rep N (S (k + 1)) ρ' F a' w') Q) a w) : (Code.loop body).wp P Q a w := by
  refine wp_loop_ghost (fun m a w => ∃ k ρ, k + m = n ∧ Z ρ ∧ Rep N (S k) ρ F a w) n ⟨0, ρ, by omega, hz, h0⟩ ?_
  rintro m a w ⟨k, ρ, hk, hz, h⟩
  refine wp_mono (round k ρ a w (by omega) hz h) ?_
  intro e a' w' hq
  cases e with
  | normal => obtain ⟨ρ', hlt, hz', h'⟩ := hq; exact ⟨m - 1, by omega, k + 1, ρ', by omega, hz', h'⟩
  | exit id => exact hq
  | goto l => exact hq
  | ret => exact hq
  | panic ch => exact hq
  | outgrown => exact hq

/-! ### ways through code -/
section
variable {P : Program} {Q : Exit → Act → World → Prop} {a : Act} {w : World} {N : Nat} {S : St} {ρ : Pl} {F : Fr}
theorem Rep.eval_tmp (h : Rep N S ρ F a w) {t : Tmp} {av : AV} (hs : S.slot t = some av) : a.eval (.tmp t) = av.to ρ := by
  have := h.slots t av hs
  simp [Act.eval, this]
theorem if_true' (h : Rep N S ρ F a w) {t : Tmp} {x y : Code} (hs : S.slot t = some (.v (.bool true))) (hx : x.wp P Q a w) : (Code.cond (.tmp t) x y).wp P Q a w := wp_cond_true (h.eval_tmp hs) hx
theorem if_false' (h : Rep N S ρ F a w) {t : Tmp} {x y : Code} (hs : S.slot t = some (.v (.bool false))) (hy : y.wp P Q a w) : (Code.cond (.tmp t) x y).wp P Q a w := wp_cond_false (h.eval_tmp hs) hy
theorem go_on (h : Rep N S ρ F a w) {t : Tmp} {y c : Code} (hs : S.slot t = some (.v (.bool true))) (hc : c.wp P Q a w) : (Code.seq (Code.cond (.tmp t) .skip y) c).wp P Q a w :=
  wp_seq (if_true' h hs (wp_skip hc))
theorem pass_by (h : Rep N S ρ F a w) {t : Tmp} {x c : Code} (hs : S.slot t = some (.v (.bool false))) (hc : c.wp P Q a w) : (Code.seq (Code.cond (.tmp t) x .skip) c).wp P Q a w :=
  wp_seq (if_false' h hs (wp_skip hc))
theorem at_exit {K : Act → World → Prop} {i : Nat} (h : Q .normal a w) : Exit.then K (Exit.inBlock i Q) (.exit i) a w := by
  simp only [Exit.then, Exit.inBlock, if_true]; exact h
theorem at_exit' {K K' : Act → World → Prop} {i : Nat} (h : Q .normal a w) : Exit.then K (Exit.then K' (Exit.inBlock i Q)) (.exit i) a w := by
  simp only [Exit.then, Exit.inBlock, if_true]; exact h
theorem leave (h : Rep N S ρ F a w) {t : Tmp} {i : Nat} {x c : Code} {K : Act → World → Prop} (hs : S.slot t = some (.v (.bool false))) (hq : Q .normal a w) :
    (Code.seq (Code.cond (.tmp t) x (.exit i)) c).wp P (Exit.then K (Exit.inBlock i Q)) a w := wp_seq (if_false' h hs (wp_exit (at_exit (K := c.wp P (Exit.then K (Exit.inBlock i Q))) (by simpa [Exit.then, Exit.inBlock] using hq))))
theorem seq_block {i : Nat} {b c : Code} (h : b.wp P (Exit.inBlock i (Exit.then (c.wp P Q) Q)) a w) : (Code.seq (Code.block i b) c).wp P Q a w := wp_seq (wp_block h)
theorem Exit.block_normal {i : Nat} (h : Q .normal a w) : Exit.inBlock i Q .normal a w := h
theorem Exit.then_normal {K : Act → World → Prop} (h : K a w) : Exit.then K Q .normal a w := h
end

/-! ### from one state to a plainer one -/
def slotsIn (S : St) : List (Nat × AV) → Prop
  | [] => True
  | p :: r => S.slot p.1 = some p.2 ∧ slotsIn S r
def memIn (S : St) : List (Nat × Blk) → Prop
  | [] => True
  | p :: r => S.blk p.1 = some p.2 ∧ memIn S r
def liveB (T : St) : Bool := T.slots.all fun p => match p.2.id? with | some i => (T.blk i).isSome | none => true

theorem lookup_mem {β : Type} {l : List (Nat × β)} {k : Nat} {v : β} (h : l.lookup k = some v) : (k, v) ∈ l := by
  induction l with
  | nil => simp at h
  | cons p l ih =>
    obtain ⟨j, u⟩ := p
    rw [List.lookup_cons] at h
    by_cases hk : (k == j) = true
    · simp only [hk, Option.some.injEq] at h
      have : k = j := by simpa using hk
      subst this; subst h; simp
    · have hk' : (k == j) = false := by simpa using hk
      simp only [hk'] at h
      exact List.mem_cons_of_mem _ (ih h)

theorem Rep.plain {N : Nat} {S : St} {ρ : Pl} {F : Fr} {a : Act} {w : World} (h : Rep N S ρ F a w) (T : St) (hs : slotsIn S T.slots) (hm : memIn S T.mem) (hl : liveB T = true) :
    Rep N T ρ F a w := by
  have hs' : ∀ (l : List (Nat × AV)), slotsIn S l → ∀ p ∈ l, S.slot p.1 = some p.2 := by
    intro l
    induction l with
    | nil => intro _ p hp; cases hp
    | cons q l ih => intro h p hp; rcases List.mem_cons.1 hp with rfl | hp; exact h.1; exact ih h.2 p hp
  have hm' : ∀ (l : List (Nat × Blk)), memIn S l → ∀ p ∈ l, S.blk p.1 = some p.2 := by
    intro l
    induction l with
    | nil => intro _ p hp; cases hp
    | cons q l ih => intro h p hp; rcases List.mem_cons.1 hp with rfl | hp; exact h.1; exact ih h.2 p hp
  have e1 : ∀ k av, T.slot k = some av → S.slot k = some av := fun k av hk => hs' _ hs _ (lookup_mem hk)
  have e2 : ∀ i b, T.blk i = some b → S.blk i = some b := fun i b hi => hm' _ hm _ (lookup_mem hi)
  refine ⟨h.defers, h.size, fun k av hk => h.slots k av (e1 k av hk), fun i b hi => h.mem i b (e2 i b hi), fun i b hi => h.own i b (e2 i b hi),
    fun i j b c n hi hj => h.inj i j b c n (e2 i b hi) (e2 j c hj), fun k av i hk hi => ?_, h.keeps⟩
  have := List.all_eq_true.1 hl _ (lookup_mem hk)
  simp only [hi] at this
  exact Option.isSome_iff_exists.1 this

/-- The start of a call: the parameters lie in the first slots. -/
theorem Rep.start {N : Nat} (vs : List Value) (rest : List Value) (w : World) (hN : vs.length + rest.length = N) :
    Rep N ⟨(vs.zipIdx.map fun p => (p.2, AV.v p.1)), []⟩ ⟨fun _ => 0, fun _ _ => False⟩ { W := w } ⟨(vs ++ rest).toArray, []⟩ w := by
  refine ⟨rfl, by simp [hN], fun k av hk => ?_, fun i b hi => by simp [St.blk] at hi, fun i b hi => by simp [St.blk] at hi, fun i j b c n hi => by simp [St.blk] at hi, fun k av i hk hi => ?_, Keeps.refl _⟩
  · have := lookup_mem hk
    simp only [List.mem_map] at this
    obtain ⟨⟨v, j⟩, hm, he⟩ := this
    cases he
    have := List.mem_zipIdx_iff_getElem?.1 hm
    have hlt : j < vs.length := (List.getElem?_eq_some_iff.1 this).1
    simp [List.getElem?_append_left hlt, this]
  · have := lookup_mem hk
    simp only [List.mem_map] at this
    obtain ⟨⟨v, j⟩, hm, he⟩ := this
    cases he
    cases hi
/-- .. of a call that is handed a part of the memory, to read or to write -/
theorem Rep.startA {N : Nat} (A : Ext) (r : Nat) (f : Nat → Prop) (vs : List Value) (rest : List Value) (w : World) (hA : A.holds r f (hp w)) (hN : vs.length + rest.length = N) :
    Rep N ⟨(vs.zipIdx.map fun p => (p.2, AV.v p.1)), [(0, .ext A)]⟩ ⟨fun _ => r, fun _ => f⟩ { W := w, M := f } ⟨(vs ++ rest).toArray, []⟩ w := by
  have hblk : ∀ {l : List (Nat × AV)} i x, St.blk ⟨l, [(0, .ext A)]⟩ i = some x → i = 0 ∧ x = .ext A := by
    intro l i x hi
    have := lookup_mem hi
    simpa using this
  refine ⟨rfl, by simp [hN], fun k av hk => ?_, fun i b hi => ?_, fun i b hi n hn => .inr hn, fun i j b c n hi hj _ _ => ?_, fun k av i hk hi => ?_, Keeps.refl _⟩
  · have := lookup_mem hk
    simp only [List.mem_map] at this
    obtain ⟨⟨v, j⟩, hm, he⟩ := this
    cases he
    have := List.mem_zipIdx_iff_getElem?.1 hm
    have hlt : j < vs.length := (List.getElem?_eq_some_iff.1 this).1
    simp [List.getElem?_append_left hlt, this]
  · obtain ⟨rfl, rfl⟩ := hblk i b hi; exact hA
  · rw [(hblk i b hi).1, (hblk j c hj).1]
  · have := lookup_mem hk
    simp only [List.mem_map] at this
    obtain ⟨⟨v, j⟩, hm, he⟩ := this
    cases he
    cases hi

theorem Rep.below {N : Nat} {S : St} {ρ : Pl} {W : World} {a : Act} {w : World} (h : Rep N S ρ { W := W } a w) : Below W.heap.size W w := h.keeps.below

/-- The end of a call whose result lies in a block of its own. -/
theorem Rep.result {P : Program} {N : Nat} {S : St} {ρ : Pl} {F : Fr} {a : Act} {w : World} (h : Rep N S ρ F a w) {fn : Func} {p : Tmp} {t t' : TypeId} {n i : Nat} {cs : Array Value} {R : Ending → World → Prop}
    (hfn : fn.results = #[.cell p t]) (hs : S.slot p = some (.p i 0)) (hb : S.blk i = some (.mk cs t')) (ht : tAgg P t = true) (hn : tSize P t = some n) (hsz : cs.size = n)
    (hR : R (.returned (.agg cs)) w) (hD : F.D = [] := by rfl) : bodyPost P fn R .ret a w := by
  refine ⟨h.defers.trans hD, .agg cs, ?_, hR⟩
  have hp := h.slots _ _ hs
  have hm := (h.mem _ _ hb).1
  have hl := run_loadAgg (P := P) (w := w) (g := ρ i) (off := 0) (cs := cs) ht hn hsz (fun k _ => by rw [cell_of_obj hm]; simp)
  simp [results, hfn, hp, asAddr, hl]
/-- .. whose result lies in a slot. -/
theorem Rep.result_av {P : Program} {N : Nat} {S : St} {ρ : Pl} {F : Fr} {a : Act} {w : World} (h : Rep N S ρ F a w) {fn : Func} {p : Tmp} {av : AV} {R : Ending → World → Prop}
    (hfn : fn.results = #[.tmp p]) (hs : S.slot p = some av) (hR : R (.returned (av.to ρ)) w) (hD : F.D = [] := by rfl) : bodyPost P fn R .ret a w := by
  refine ⟨h.defers.trans hD, av.to ρ, ?_, hR⟩
  have hp := h.slots _ _ hs
  simp [results, hfn, hp]
theorem Rep.result_tmp {P : Program} {N : Nat} {S : St} {ρ : Pl} {F : Fr} {a : Act} {w : World} (h : Rep N S ρ F a w) {fn : Func} {p : Tmp} {v : Value} {R : Ending → World → Prop}
    (hfn : fn.results = #[.tmp p]) (hs : S.slot p = some (.v v)) (hR : R (.returned v) w) (hD : F.D = [] := by rfl) : bodyPost P fn R .ret a w := h.result_av hfn hs hR hD
theorem Exit.thenRet {Q : Exit → Act → World → Prop} {K : Act → World → Prop} {a : Act} {w : World} (h : Q .ret a w) : Exit.then K Q .ret a w := by simpa [Exit.then] using h
theorem Exit.blockRet {Q : Exit → Act → World → Prop} {i : Nat} {a : Act} {w : World} (h : Q .ret a w) : Exit.inBlock i Q .ret a w := by simpa [Exit.inBlock] using h
theorem Rep.result_tmp2 {P : Program} {N : Nat} {S : St} {ρ : Pl} {F : Fr} {a : Act} {w : World} (h : Rep N S ρ F a w) {fn : Func} {p q : Tmp} {u v : Value} {R : Ending → World → Prop}
    (hfn : fn.results = #[.tmp p, .tmp q]) (hs : S.slot p = some (.v u)) (hs2 : S.slot q = some (.v v)) (hR : R (.returned (.tuple #[u, v])) w) (hD : F.D = [] := by rfl) : bodyPost P fn R .ret a w := by
  refine ⟨h.defers.trans hD, .tuple #[u, v], ?_, hR⟩
  have hp := h.slots _ _ hs
  have hq := h.slots _ _ hs2
  simp [results, hfn, hp, hq]
/-- two slots, and between them one that lies in a block -/
theorem Rep.result_tct {P : Program} {N : Nat} {S : St} {ρ : Pl} {F : Fr} {a : Act} {w : World} (h : Rep N S ρ F a w) {fn : Func} {p c q : Tmp} {t t' : TypeId} {n i : Nat} {cs : Array Value} {u v : Value} {R : Ending → World → Prop}
    (hfn : fn.results = #[.tmp p, .cell c t, .tmp q]) (hs : S.slot p = some (.v u)) (hc : S.slot c = some (.p i 0)) (hb : S.blk i = some (.mk cs t')) (ht : tAgg P t = true) (hn : tSize P t = some n) (hsz : cs.size = n)
    (hs2 : S.slot q = some (.v v)) (hR : R (.returned (.tuple #[u, .agg cs, v])) w) (hD : F.D = [] := by rfl) : bodyPost P fn R .ret a w := by
  refine ⟨h.defers.trans hD, .tuple #[u, .agg cs, v], ?_, hR⟩
  have hp := h.slots _ _ hs
  have hq := h.slots _ _ hs2
  have hcc := h.slots _ _ hc
  have hm := (h.mem _ _ hb).1
  have hl := run_loadAgg (P := P) (w := w) (g := ρ i) (off := 0) (cs := cs) ht hn hsz (fun k _ => by rw [cell_of_obj hm]; simp)
  simp [results, hfn, hp, hq, hcc, asAddr, hl]

section
variable {P : Program} {F : Fr} {ops : Array Oper} {S : St} {o : Oper}

theorem o_bin (hw : want ops S o = some true) {op : BinOp} {x y : Operand} {t t' : TypeId} (ho : o.op = .binOp op t x y t') {k k' : IntKind} {a b : Int} {v : Value}
    (hx : S.av x = some (.v (.int k a))) (hy : S.av y = some (.v (.int k' b))) (h : ∀ w, (binOp op t (.int k a) (.int k' b)).run P w = .ok v w) : OpOK P F ops o S { val := .v v } :=
  ok_value hw fun ρ a' w h1 _ _ => by
    have e1 := h1 x (by simp [ho, Op.operands]) _ hx
    have e2 := h1 y (by simp [ho, Op.operands]) _ hy
    have hg : (eqGuard op t x y (.int k a) (.int k' b)).run P w = .ok () w := by
      unfold eqGuard
      cases op <;> rfl
    simp only [execOp, ho, e1, e2, AV.to_v, Sem.run_bind, hg, Result.andThen_ok, h w]
    rfl

theorem o_conv (hw : want ops S o = some true) {x : Operand} {t t' : TypeId} (ho : o.op = .convert t t' x) {k k' : IntKind} {a : Int} {c : Int}
    (hx : S.av x = some (.v (.int k a))) (hu : (P.underlying t).isSome = true) (hu' : P.underlying t' = some (.int k')) (hc : k'.wrap a = c) : OpOK P F ops o S { val := .v (.int k' c) } :=
  ok_value hw fun ρ a' w h1 _ _ => by
    have e1 := h1 x (by simp [ho, Op.operands]) _ hx
    obtain ⟨d, hd⟩ := Option.isSome_iff_exists.mp hu
    simp [execOp, ho, e1, convert, run_underlying hd, run_underlying hu', Conv.intToInt, hc]

/-- an array or struct made of its parts -/
theorem o_built (hw : want ops S o = some true) {t : TypeId} {parts : Array (Nat × Operand)} (ho : o.op = .build t parts) (hp : S.plain o = true) {v : Value}
    (h : ∀ w, (Instr.build t (parts.map fun p => (p.1, S.fn p.2))).run P w = .ok v w) : OpOK P F ops o S { val := .v v } :=
  ok_pure hw hp fun w => by simp [execOp, ho]; rw [h w]; rfl
end

section
variable {P : Program} {t : TypeId}
theorem r_add64 {a b : Nat} (h : a + b < 18446744073709551616) (w : World) : (binOp .add t (.int .u64 a) (.int .u64 b)).run P w = .ok (.int .u64 ((a + b : Nat) : Int)) w := by
  show Result.ok (Value.int .u64 (IntKind.u64.wrap ((a : Int) + b))) w = _
  rw [IntKind.wrap_u64]; congr 2; omega
theorem r_sub64 {a b : Nat} (h : b ≤ a) (h' : a < 18446744073709551616) (w : World) : (binOp .sub t (.int .u64 a) (.int .u64 b)).run P w = .ok (.int .u64 ((a - b : Nat) : Int)) w := by
  show Result.ok (Value.int .u64 (IntKind.u64.wrap ((a : Int) - b))) w = _
  rw [IntKind.wrap_u64]; congr 2; omega
theorem r_mul64 {a b : Nat} (h : a * b < 18446744073709551616) (w : World) : (binOp .mul t (.int .u64 a) (.int .u64 b)).run P w = .ok (.int .u64 ((a * b : Nat) : Int)) w := by
  show Result.ok (Value.int .u64 (IntKind.u64.wrap ((a : Int) * b))) w = _
  rw [IntKind.wrap_u64, ← Int.natCast_mul]; congr 2; omega
theorem r_shr64 (a s : Nat) (k : IntKind) (hs : s ≤ 64) (w : World) : (binOp .shr t (.int .u64 a) (.int k s)).run P w = .ok (.int .u64 ((a / 2 ^ s : Nat) : Int)) w := by
  have hn : ¬ ((s : Int) < 0) := by omega
  simp only [binOp, Op.shift, hn, if_false, Int.toNat_natCast, IntKind.bits, Nat.min_eq_left hs, Sem.run_pure]
  congr 2
  rw [Int.fdiv_eq_ediv_of_nonneg _ (by have : (0 : Int) < 2 ^ s := Int.pow_pos (by decide); omega)]
  push_cast; rfl
theorem r_shl64 (a s : Nat) (k : IntKind) (hs : s ≤ 64) (w : World) : (binOp .shl t (.int .u64 a) (.int k s)).run P w = .ok (.int .u64 ((a * 2 ^ s % 18446744073709551616 : Nat) : Int)) w := by
  have hn : ¬ ((s : Int) < 0) := by omega
  simp only [binOp, Op.shift, hn, if_false, Int.toNat_natCast, IntKind.bits, Nat.min_eq_left hs, Sem.run_pure, IntKind.wrap_u64]
  congr 2
theorem r_and {k : IntKind} {a b c : Int} (h : bits .and k a b = c) (w : World) : (binOp .and t (.int k a) (.int k b)).run P w = .ok (.int k c) w := by
  subst h
  simp [binOp, intBits_and]
theorem r_or {k : IntKind} {a b c : Int} (h : bits .or k a b = c) (w : World) : (binOp .or t (.int k a) (.int k b)).run P w = .ok (.int k c) w := by
  subst h
  simp [binOp, intBits_or]
theorem r_xor {k : IntKind} {a b c : Int} (h : bits .xor k a b = c) (w : World) : (binOp .xor t (.int k a) (.int k b)).run P w = .ok (.int k c) w := by
  subst h
  simp [binOp, intBits_xor]
/-- int -/
theorem wrap_small (a : Nat) (h : a < 9223372036854775808) : IntKind.i64.wrap (a : Int) = a := by rw [IntKind.wrap_i64]; omega
theorem r_addi {a b : Nat} (h : a + b < 9223372036854775808) (w : World) : (binOp .add t (.int .i64 a) (.int .i64 b)).run P w = .ok (.int .i64 ((a + b : Nat) : Int)) w := by
  show Result.ok (Value.int .i64 (IntKind.i64.wrap ((a : Int) + b))) w = _
  rw [← Int.natCast_add, wrap_small _ h]
theorem r_subi {a b : Nat} (h : b ≤ a) (h' : a < 9223372036854775808) (w : World) : (binOp .sub t (.int .i64 a) (.int .i64 b)).run P w = .ok (.int .i64 ((a - b : Nat) : Int)) w := by
  show Result.ok (Value.int .i64 (IntKind.i64.wrap ((a : Int) - b))) w = _
  have : (a : Int) - b = ((a - b : Nat) : Int) := by omega
  rw [this, wrap_small _ (by omega)]
theorem r_muli {a b : Nat} (h : a * b < 9223372036854775808) (w : World) : (binOp .mul t (.int .i64 a) (.int .i64 b)).run P w = .ok (.int .i64 ((a * b : Nat) : Int)) w := by
  show Result.ok (Value.int .i64 (IntKind.i64.wrap ((a : Int) * b))) w = _
  rw [← Int.natCast_mul, wrap_small _ h]
theorem r_quoi {a b : Nat} (h : b ≠ 0) (h' : a < 9223372036854775808) (w : World) : (binOp .quo t (.int .i64 a) (.int .i64 b)).run P w = .ok (.int .i64 ((a / b : Nat) : Int)) w := by
  have hb : ¬ ((b : Int) = 0) := by omega
  have : (a : Int).tdiv b = ((a / b : Nat) : Int) := by rw [Int.tdiv_eq_ediv_of_nonneg (by omega)]; simp
  have hlt : a / b < 9223372036854775808 := Nat.lt_of_le_of_lt (Nat.div_le_self _ _) h'
  simp only [binOp, ne_eq, not_true_eq_false, if_false, Op.intDiv, hb, this, Sem.run_pure, wrap_small _ hlt]
theorem r_remi {a b : Nat} (h : b ≠ 0) (w : World) : (binOp .rem t (.int .i64 a) (.int .i64 b)).run P w = .ok (.int .i64 ((a % b : Nat) : Int)) w := by
  have hb : ¬ ((b : Int) = 0) := by omega
  have : (a : Int).tmod b = ((a % b : Nat) : Int) := by rw [Int.tmod_eq_emod_of_nonneg (by omega)]; simp
  simp only [binOp, ne_eq, not_true_eq_false, if_false, Op.intDiv, hb, this, Sem.run_pure]
theorem r_lss {k : IntKind} {a b : Nat} {c : Bool} (h : decide (a < b) = c) (w : World) : (binOp .lss t (.int k a) (.int k b)).run P w = .ok (.bool c) w := by
  subst h; simp [binOp, Op.intCmp]
theorem r_geqz {a : Int} {c : Bool} (h : decide (a ≥ 0) = c) (w : World) : (binOp .geq t (.int .i64 a) (.int .i64 0)).run P w = .ok (.bool c) w := by
  subst h; simp [binOp, Op.intCmp]
theorem r_eqli {k : IntKind} {a b : Nat} {c : Bool} (h : decide (a = b) = c) (w : World) : (binOp .eql t (.int k a) (.int k b)).run P w = .ok (.bool c) w := by
  subst h
  have : ((a : Int) == (b : Int)) = decide (a = b) := by
    by_cases h : a = b
    · simp [h]
    · have : ¬ ((a : Int) = b) := by omega
      simp [h, this]
  simp [binOp, Op.intCmp, this]
theorem r_neqi {k : IntKind} {a b : Nat} {c : Bool} (h : decide (a ≠ b) = c) (w : World) : (binOp .neq t (.int k a) (.int k b)).run P w = .ok (.bool c) w := by
  subst h
  have : ((a : Int) != (b : Int)) = !decide (a = b) := by
    by_cases h : a = b
    · simp [h]
    · have : ¬ ((a : Int) = b) := by omega
      simp [h, this]
  simp [binOp, Op.intCmp, this]
/-- a byte shifted down by a computed count -/
theorem r_shr8 (a s : Nat) (k : IntKind) (hs : s ≤ 8) (w : World) : (binOp .shr t (.int .u8 a) (.int k s)).run P w = .ok (.int .u8 ((a / 2 ^ s : Nat) : Int)) w := by
  have hn : ¬ ((s : Int) < 0) := by omega
  simp only [binOp, Op.shift, hn, if_false, Int.toNat_natCast, IntKind.bits, Nat.min_eq_left hs, Sem.run_pure]
  congr 2
  rw [Int.fdiv_eq_ediv_of_nonneg _ (by have : (0 : Int) < 2 ^ s := Int.pow_pos (by decide); omega)]
  push_cast; rfl
end
theorem r_leqi {P : Program} {t : TypeId} {k : IntKind} {a b : Int} {c : Bool} (h : decide (a ≤ b) = c) (w : World) : (binOp .leq t (.int k a) (.int k b)).run P w = .ok (.bool c) w := by
  subst h; simp [binOp, Op.intCmp]
theorem r_lssi {P : Program} {t : TypeId} {k : IntKind} {a b : Int} {c : Bool} (h : decide (a < b) = c) (w : World) : (binOp .lss t (.int k a) (.int k b)).run P w = .ok (.bool c) w := by
  subst h; simp [binOp, Op.intCmp]
theorem r_geqi {P : Program} {t : TypeId} {k : IntKind} {a b : Int} {c : Bool} (h : decide (a ≥ b) = c) (w : World) : (binOp .geq t (.int k a) (.int k b)).run P w = .ok (.bool c) w := by
  subst h; simp [binOp, Op.intCmp]
theorem r_eqlz {P : Program} {t : TypeId} {k : IntKind} {a b : Int} {c : Bool} (h : decide (a = b) = c) (w : World) : (binOp .eql t (.int k a) (.int k b)).run P w = .ok (.bool c) w := by
  subst h
  have : (a == b) = decide (a = b) := by by_cases h : a = b <;> simp [h]
  simp [binOp, Op.intCmp, this]
theorem r_neqz {P : Program} {t : TypeId} {k : IntKind} {a b : Int} {c : Bool} (h : decide (a ≠ b) = c) (w : World) : (binOp .neq t (.int k a) (.int k b)).run P w = .ok (.bool c) w := by
  subst h
  have : (a != b) = !decide (a = b) := by by_cases h : a = b <;> simp [h]
  simp [binOp, Op.intCmp, this]

section
variable {P : Program} {F : Fr} {ops : Array Oper} {S : St} {o : Oper} {rest : List Oper} {N : Nat} {ρ : Pl} {a : Act} {w : World} {Q : Exit → Act → World → Prop}
def freshB (S : St) (e : Eff) : Bool := match e.new with | some x => (S.blk x.1).isNone | none => true
def wroteB (S : St) (e : Eff) : Bool := match e.wr with | some x => (S.blk x.1).isSome | none => true
def idB (S : St) (e : Eff) : Bool := match e.val.id? with | some i => (S.blk i).isSome || (match e.new with | some x => x.1 == i | none => false) | none => true
def dstB (N : Nat) (o : Oper) : Bool := match o.dst with | some d => decide (d < N) | none => true
theorem Rep.stepB {o : Oper} {e : Eff} (h : Rep N S ρ F a w) (h1 : dstB N o = true) (h2 : freshB S e = true) (h3 : wroteB S e = true) (h4 : idB S e = true) {v : Value} {w' : World} {n : Nw} (ho : Out ρ e w v w' n) :
    Rep N (S.step o.dst e) (upd ρ e n) F (a.put o.dst v) w' := by
  refine h.step ?_ ?_ ?_ ?_ ho
  · intro d hd
    simpa [dstB, hd] using h1
  · intro x hx
    simpa [freshB, hx] using h2
  · intro x hx
    exact Option.isSome_iff_exists.1 (by simpa [wroteB, hx] using h3)
  · intro i hi
    simp only [idB, hi, Bool.or_eq_true] at h4
    rcases h4 with h4 | h4
    · exact .inl (Option.isSome_iff_exists.1 h4)
    · cases hn : e.new with
      | none => rw [hn] at h4; cases h4
      | some x =>
        rw [hn] at h4
        obtain ⟨i', b⟩ := x
        have : i' = i := by simpa using h4
        subst this
        exact .inr ⟨b, rfl⟩
/-- one operation, told ahead -/
theorem wpl_step {e : Eff} (h : Rep N S ρ F a w) (hg : o.guard = none) (hop : OpOK P F ops o S e) (h1 : dstB N o = true) (h2 : freshB S e = true) (h3 : wroteB S e = true) (h4 : idB S e = true)
    (hR : ∀ ρ' a' w', Rep N (S.step o.dst e) ρ' F a' w' → wpList P ops Q rest a' w') : wpList P ops Q (o :: rest) a w := by
  refine wpList_plain hg fun K hK => ?_
  have := hop ρ a w Q K (fun k _ av hk => h.slots k av hk) (fun i _ b hb => h.mem i b hb) h.keeps (fun v w' n ho => hK _ _ (hR _ _ _ (h.stepB h1 h2 h3 h4 ho)))
  rwa [if_pos (by simp [Region.wanted, hg])] at this
/-- a call whose effect is one of many -/
theorem wpl_call {α : Type} (E : α → Eff) (C : α → Prop) (h : Rep N S ρ F a w) (hg : o.guard = none) {f : FuncId} {args : Array Operand} {ts : Array TypeId} (ho : o.op = .call { callee := .value (.func f), args := args, argTypes := ts })
    (hf : goFn P f = true) (avs : List AV) (ha : args.toList.mapM S.av = some avs)
    (hc : Calls P f (avs.map (·.to ρ)).toArray w fun en w' => ∃ x v n, C x ∧ en = .returned v ∧ Out ρ (E x) w v w' n)
    (h1 : dstB N o = true) (h2 : ∀ x, freshB S (E x) = true) (h3 : ∀ x, wroteB S (E x) = true) (h4 : ∀ x, idB S (E x) = true)
    (hR : ∀ x ρ' a' w', C x → Rep N (S.step o.dst (E x)) ρ' F a' w' → wpList P ops Q rest a' w') : wpList P ops Q (o :: rest) a w := by
  refine wpList_plain hg fun K hK => ?_
  have hargs : args.map a.eval = (avs.map (·.to ρ)).toArray := by
    apply Array.ext'
    simp only [Array.toList_map]
    clear hc ho
    generalize args.toList = l at ha
    induction l generalizing avs with
    | nil => simp only [List.mapM_nil] at ha; cases ha; rfl
    | cons x l ih =>
      rw [List.mapM_cons] at ha
      cases hx : S.av x with
      | none => simp [hx] at ha
      | some av =>
        cases hl : l.mapM S.av with
        | none => simp [hx, hl] at ha
        | some avs' =>
          simp only [hx, hl] at ha
          cases ha
          simp only [List.map_cons]
          congr 1
          · cases x with
            | tmp t => exact h.eval_tmp hx
            | const v => simp only [St.av] at hx; cases hx; rfl
            | global g => simp only [St.av] at hx; cases hx
            | func g => simp only [St.av] at hx; cases hx; rfl
          · exact ih _ hl
  have hf' := hf
  unfold goFn at hf'
  cases hgf : P.funcs[f]? with
  | none => simp [hgf] at hf'
  | some fn =>
    simp only [hgf, Bool.and_eq_true, Bool.not_eq_true'] at hf'
    have hb : ¬ fn.body = none := by have := hf'.1; intro hn; rw [hn] at this; cases this
    have hne : ¬ fn.name = "runtime.NumGoroutine" := by simpa using hf'.2
    have hr : (execOp a.eval o).run P w = .ok (.enter f (avs.map (·.to ρ)).toArray) w := by
      simp [execOp, ho, resolve, Deferred.ofValue, Act.eval, invoke, callFunc, hgf, hne, hb]
      have := hargs
      simpa using this
    unfold Oper.wp
    rw [hr, Oper.upon_enter]
    refine hc.mono fun en w' he => ?_
    obtain ⟨x, v, n, hx, rfl, out⟩ := he
    exact hK _ _ (hR x _ _ _ hx (h.stepB h1 (h2 x) (h3 x) (h4 x) out))
end
/-- the region is its list -/
theorem seq_list {P : Program} {id : Nat} {l : List Oper} {c : Code} {a : Act} {w : World} {Q : Exit → Act → World → Prop} (h : wpList P l.toArray (Exit.then (c.wp P Q) Q) l a w) : (Code.seq (Code.region id l.toArray false) c).wp P Q a w :=
  wp_seq (wp_region_list h)
theorem last_list {P : Program} {id : Nat} {l : List Oper} {a : Act} {w : World} {Q : Exit → Act → World → Prop} (h : wpList P l.toArray Q l a w) : (Code.region id l.toArray false).wp P Q a w := wp_region_list h

end Go.Proofs.Ytnppgaohfegloaa
