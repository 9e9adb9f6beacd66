/-
  Regions whose order is drawn, taken operation by operation: each operation is met once, in the order of the text, against an abstract state of slots and own blocks; any order that the edges allow comes to the same abstract state.
-/
import Derived.WalkKit
import Derived.WalkSpells
namespace Go.Proofs.Ytnbdeajjfhlmnaa
open Go.RowKit

/-- A value up to the number of one block. -/
structure AV where
  id? : Option Nat
  val : Nat → Value

def AV.v (x : Value) : AV := ⟨none, fun _ => x⟩
def AV.p (i off : Nat) : AV := ⟨some i, fun b => .pointer (some ⟨b, off, none⟩)⟩
def AV.s (i off len cap : Nat) : AV := ⟨some i, fun b => .slice (some ⟨b, off, none⟩) len cap⟩
def AV.to (ρ : Nat → Nat) (x : AV) : Value := match x.id? with | none => x.val 0 | some i => x.val (ρ i)

@[simp] theorem AV.to_v (ρ : Nat → Nat) (x : Value) : (AV.v x).to ρ = x := rfl
@[simp] theorem AV.to_p (ρ : Nat → Nat) (i off : Nat) : (AV.p i off).to ρ = .pointer (some ⟨ρ i, off, none⟩) := rfl
@[simp] theorem AV.to_s (ρ : Nat → Nat) (i off l c : Nat) : (AV.s i off l c).to ρ = .slice (some ⟨ρ i, off, none⟩) l c := rfl

theorem AV.to_congr {ρ ρ' : Nat → Nat} {x : AV} (h : ∀ i, x.id? = some i → ρ i = ρ' i) : x.to ρ = x.to ρ' := by
  unfold AV.to
  cases hx : x.id? with
  | none => rfl
  | some i => simp only; rw [h i hx]

structure Blk where
  cells : Array Value
  ty : TypeId

def Blk.obj (b : Blk) : Obj := .cells b.cells b.ty (0, 0)

structure St where
  slots : List (Nat × AV)
  mem : List (Nat × Blk)

def St.slot (S : St) (k : Nat) : Option AV := S.slots.lookup k
def St.blk (S : St) (i : Nat) : Option Blk := S.mem.lookup i

structure Eff where
  val : AV
  new : Option (Nat × Blk) := none
  wr : Option (Nat × Blk) := none
  rd : List Nat := []

def St.step (S : St) (dst : Option Tmp) (e : Eff) : St :=
  { slots := match dst with | some d => (d, e.val) :: S.slots | none => S.slots
    mem := match e.wr with
      | some x => x :: (match e.new with | some y => y :: S.mem | none => S.mem)
      | none => match e.new with | some y => y :: S.mem | none => S.mem }

def upd (ρ : Nat → Nat) (e : Eff) (n : Nat) : Nat → Nat := fun x =>
  match e.new with
  | some (i, _) => if x = i then n else ρ x
  | none => ρ x

/-- The world in which a call began, and the blocks of it that the call may write. -/
structure Fr where
  W : World
  M : Nat → Prop := fun _ => False

structure Keeps (F : Fr) (w : World) : Prop where
  os : w.os = F.W.os
  tape : w.tape = F.W.tape
  output : w.output = F.W.output
  size : F.W.heap.size ≤ w.heap.size
  block : ∀ k, k < F.W.heap.size → ¬ F.M k → w.heap[k]? = F.W.heap[k]?

theorem Keeps.refl (F : Fr) : Keeps F F.W := ⟨rfl, rfl, rfl, Nat.le_refl _, fun _ _ _ => rfl⟩
theorem Keeps.below {W : World} {w : World} (h : Keeps { W := W } w) : Below W.heap.size W w := ⟨h.os, h.tape, h.output, h.size, fun k hk => h.block k hk (fun h => h)⟩
theorem Keeps.cell {F : Fr} {w : World} (h : Keeps F w) {p : Addr} (hp : p.block < F.W.heap.size) (hm : ¬ F.M p.block) : w.cell? p = F.W.cell? p := World.cell?_of_block (w := F.W) (h.block p.block hp hm)

/-- What an operation does: its value, and what becomes of the world. -/
structure Out (ρ : Nat → Nat) (e : Eff) (w : World) (v : Value) (w' : World) (n : Nat) : Prop where
  val : v = e.val.to (upd ρ e n)
  os : w'.os = w.os
  tape : w'.tape = w.tape
  output : w'.output = w.output
  size : w.heap.size ≤ w'.heap.size
  keep : ∀ b, b < w.heap.size → (∀ x, e.wr = some x → b ≠ ρ x.1) → w'.heap[b]? = w.heap[b]?
  wr : ∀ x, e.wr = some x → w'.heap[ρ x.1]? = some x.2.obj
  new : ∀ x, e.new = some x → w.heap.size ≤ n ∧ w'.heap[n]? = some x.2.obj

structure Rep (N : Nat) (S : St) (ρ : Nat → Nat) (F : Fr) (a : Act) (w : World) : Prop where
  defers : a.defers = []
  size : a.tmps.size = N
  slots : ∀ k av, S.slot k = some av → a.tmps[k]? = some (av.to ρ)
  mem : ∀ i b, S.blk i = some b → w.heap[ρ i]? = some b.obj
  own : ∀ i b, S.blk i = some b → F.W.heap.size ≤ ρ i ∨ F.M (ρ i)
  inj : ∀ i j b c, S.blk i = some b → S.blk j = some c → ρ i = ρ j → i = j
  live : ∀ k av i, S.slot k = some av → av.id? = some i → ∃ b, S.blk i = some b
  keeps : Keeps F w

/-- Only what the look-ups say counts. -/
theorem Rep.of_look {N : Nat} {S S' : St} {ρ : Nat → Nat} {F : Fr} {a : Act} {w : World} (h : Rep N S ρ F a w)
    (hs : ∀ k, S'.slot k = S.slot k) (hb : ∀ i, S'.blk i = S.blk i) : Rep N S' ρ F a w where
  defers := h.defers
  size := h.size
  slots := fun k av hk => h.slots k av (by rw [← hs]; exact hk)
  mem := fun i b hi => h.mem i b (by rw [← hb]; exact hi)
  own := fun i b hi => h.own i b (by rw [← hb]; exact hi)
  inj := fun i j b c hi hj => h.inj i j b c (by rw [← hb]; exact hi) (by rw [← hb]; exact hj)
  live := fun k av i hk hi => by
    obtain ⟨b, hb'⟩ := h.live k av i (by rw [← hs]; exact hk) hi
    exact ⟨b, by rw [hb]; exact hb'⟩
  keeps := h.keeps

theorem slot_step (S : St) (dst : Option Tmp) (e : Eff) (k : Nat) : (S.step dst e).slot k = if dst = some k then some e.val else S.slot k := by
  cases dst with
  | none => simp [St.step, St.slot]
  | some d =>
    by_cases h : d = k
    · subst h; simp [St.step, St.slot]
    · have h' : (k == d) = false := by simp; exact fun x => h x.symm
      simp [St.step, St.slot, List.lookup, h', h]

def Eff.at (e : Eff) (i : Nat) : Option Blk :=
  match e.wr with
  | some (j, b) => if i = j then some b else (match e.new with | some (j', b') => if i = j' then some b' else none | none => none)
  | none => match e.new with | some (j', b') => if i = j' then some b' else none | none => none

theorem blk_step (S : St) (dst : Option Tmp) (e : Eff) (i : Nat) : (S.step dst e).blk i = match e.at i with | some b => some b | none => S.blk i := by
  obtain ⟨val, new, wr, rd⟩ := e
  have key : ∀ (j : Nat) (b : Blk) (l : List (Nat × Blk)), List.lookup i ((j, b) :: l) = if i = j then some b else List.lookup i l := by
    intro j b l
    by_cases h : i = j
    · subst h; simp [List.lookup]
    · have h' : (i == j) = false := by simpa using h
      simp [List.lookup, h', h]
  cases wr with
  | none =>
    cases new with
    | none => simp [St.step, St.blk, Eff.at]
    | some y => obtain ⟨j, b⟩ := y; simp only [St.step, St.blk, Eff.at, key]; split <;> rfl
  | some x =>
    obtain ⟨j, b⟩ := x
    cases new with
    | none => simp only [St.step, St.blk, Eff.at, key]; split <;> rfl
    | some y => obtain ⟨j', b'⟩ := y; simp only [St.step, St.blk, Eff.at, key]; split <;> (try rfl); split <;> rfl

theorem lt_of_heap {w : World} {b : Nat} {o : Obj} (h : w.heap[b]? = some o) : b < w.heap.size := by
  rcases Nat.lt_or_ge b w.heap.size with h' | h'
  · exact h'
  · rw [Array.getElem?_eq_none h'] at h; cases h

theorem get_put {a : Act} {dst : Option Tmp} {v : Value} {k : Nat} : (a.put dst v).tmps[k]? = if dst = some k ∧ k < a.tmps.size then some v else a.tmps[k]? := by
  cases dst with
  | none => simp [Act.put]
  | some d =>
    by_cases h : d = k
    · subst h
      by_cases hs : d < a.tmps.size
      · simp [Act.put, hs]
      · simp [Act.put, hs]
    · simp [Act.put, h, Array.getElem?_setIfInBounds_ne h]

/-- One operation more. -/
theorem Rep.step {N : Nat} {S : St} {ρ : Nat → Nat} {F : Fr} {a : Act} {w : World} (h : Rep N S ρ F a w) {dst : Option Tmp} {e : Eff} {v : Value} {w' : World} {n : Nat}
    (hd : ∀ d, dst = some d → d < N) (hn : ∀ x, e.new = some x → S.blk x.1 = none) (hw : ∀ x, e.wr = some x → ∃ b, S.blk x.1 = some b)
    (hv : ∀ i, e.val.id? = some i → (∃ b, S.blk i = some b) ∨ ∃ b, e.new = some (i, b)) (ho : Out ρ e w v w' n) :
    Rep N (S.step dst e) (upd ρ e n) F (a.put dst v) w' := by
  have hold : ∀ i b, S.blk i = some b → upd ρ e n i = ρ i := by
    intro i b hb
    unfold upd
    split
    · rename_i j c hj
      have := hn _ hj
      split
      · rename_i hij; subst hij; rw [this] at hb; cases hb
      · rfl
    · rfl
  have hnew : ∀ x, e.new = some x → upd ρ e n x.1 = n := by
    intro x hx
    obtain ⟨j, c⟩ := x
    simp [upd, hx]
  have hkind : ∀ i b, (S.step dst e).blk i = some b → ((∃ x, e.wr = some x ∧ x.1 = i ∧ x.2 = b) ∨ ((∀ x, e.wr = some x → x.1 ≠ i) ∧ ∃ x, e.new = some x ∧ x.1 = i ∧ x.2 = b) ∨ ((∀ x, e.wr = some x → x.1 ≠ i) ∧ S.blk i = some b)) := by
    intro i b hb
    rw [blk_step] at hb
    unfold Eff.at at hb
    cases hwr : e.wr with
    | some x =>
      obtain ⟨j, c⟩ := x
      simp only [hwr] at hb
      by_cases hij : i = j
      · simp only [hij, if_true] at hb; left; exact ⟨_, rfl, hij.symm, by simpa using hb⟩
      · simp only [hij, if_false] at hb
        cases hne : e.new with
        | some y =>
          obtain ⟨j', c'⟩ := y
          simp only [hne] at hb
          by_cases hij' : i = j'
          · simp only [hij', if_true] at hb; right; left
            exact ⟨fun x hx => by cases hx; exact fun t => hij t.symm, _, rfl, hij'.symm, by simpa using hb⟩
          · simp only [hij', if_false] at hb; right; right; exact ⟨fun x hx => by cases hx; exact fun t => hij t.symm, hb⟩
        | none => simp only [hne] at hb; right; right; exact ⟨fun x hx => by cases hx; exact fun t => hij t.symm, hb⟩
    | none =>
      simp only [hwr] at hb
      cases hne : e.new with
      | some y =>
        obtain ⟨j', c'⟩ := y
        simp only [hne] at hb
        by_cases hij' : i = j'
        · simp only [hij', if_true] at hb; right; left; exact ⟨(fun x hx => by cases hx), _, rfl, hij'.symm, by simpa using hb⟩
        · simp only [hij', if_false] at hb; right; right; exact ⟨(fun x hx => by cases hx), hb⟩
      | none => simp only [hne] at hb; right; right; exact ⟨(fun x hx => by cases hx), hb⟩
  -- every block of the new state: an old one, at its old number, or the new one
  have hplace : ∀ i b, (S.step dst e).blk i = some b → ((∃ c, S.blk i = some c) ∧ upd ρ e n i = ρ i) ∨ (∃ x, e.new = some x ∧ x.1 = i ∧ upd ρ e n i = n) := by
    intro i b hb
    rcases hkind i b hb with ⟨x, hx, hi, _⟩ | ⟨_, x, hx, hi, _⟩ | ⟨_, hS⟩
    · obtain ⟨c, hc⟩ := hw x hx; rw [hi] at hc; exact .inl ⟨⟨c, hc⟩, hold _ _ hc⟩
    · exact .inr ⟨x, hx, hi, by rw [← hi]; exact hnew x hx⟩
    · exact .inl ⟨⟨b, hS⟩, hold _ _ hS⟩
  have hbase : F.W.heap.size ≤ w.heap.size := h.keeps.size
  refine ⟨?_, ?_, ?_, ?_, ?_, ?_, ?_, ?_⟩
  · cases dst <;> exact h.defers
  · cases dst <;> simp [Act.put, h.size]
  · intro k av hk
    rw [slot_step] at hk
    rw [get_put]
    by_cases hdk : dst = some k
    · simp only [hdk, if_true] at hk
      have : k < a.tmps.size := by rw [h.size]; exact hd k hdk
      rw [if_pos ⟨hdk, this⟩]
      cases hk
      rw [ho.val]
    · rw [if_neg hdk] at hk
      rw [if_neg (fun t => hdk t.1), h.slots k av hk]
      refine congrArg some (AV.to_congr fun i hi => ?_)
      obtain ⟨b, hb⟩ := h.live k av i hk hi
      exact (hold i b hb).symm
  · intro i b hb
    rcases hkind i b hb with ⟨x, hx, hi, hxb⟩ | ⟨_, x, hx, hi, hxb⟩ | ⟨hne, hS⟩
    · obtain ⟨c, hc⟩ := hw x hx
      rw [hi] at hc
      rw [hold _ _ hc, ← hi, ← hxb]; exact ho.wr x hx
    · rw [← hi, hnew x hx, ← hxb]; exact (ho.new x hx).2
    · rw [hold _ _ hS]
      have hm := h.mem _ _ hS
      rw [ho.keep _ (lt_of_heap hm) ?_]
      · exact hm
      · intro x hx hEq
        obtain ⟨c, hc⟩ := hw x hx
        exact hne x hx (h.inj _ _ _ _ hc hS hEq.symm)
  · intro i b hb
    rcases hplace i b hb with ⟨⟨c, hc⟩, hu⟩ | ⟨x, hx, hi, hu⟩
    · rw [hu]; exact h.own _ _ hc
    · rw [hu]; exact .inl (Nat.le_trans hbase (ho.new x hx).1)
  · intro i j b c hb hc hij
    rcases hplace i b hb with ⟨⟨b', hb'⟩, hu⟩ | ⟨x, hx, hi, hu⟩ <;> rcases hplace j c hc with ⟨⟨c', hc'⟩, hv'⟩ | ⟨y, hy, hj, hv'⟩
    · rw [hu, hv'] at hij; exact h.inj _ _ _ _ hb' hc' hij
    · rw [hu, hv'] at hij
      have := lt_of_heap (h.mem _ _ hb'); have := (ho.new y hy).1; omega
    · rw [hu, hv'] at hij
      have := lt_of_heap (h.mem _ _ hc'); have := (ho.new x hx).1; omega
    · rw [hx] at hy; cases hy; rw [← hi, ← hj]
  · intro k av i hk hi
    rw [slot_step] at hk
    have hgrow : ∀ b, S.blk i = some b → ∃ b', (S.step dst e).blk i = some b' := by
      intro b hb; rw [blk_step]; cases e.at i with | some c => exact ⟨c, rfl⟩ | none => exact ⟨b, hb⟩
    by_cases hdk : dst = some k
    · simp only [hdk, if_true] at hk
      cases hk
      rcases hv i hi with ⟨b, hb⟩ | ⟨b, hb⟩
      · exact hgrow b hb
      · rw [blk_step]
        cases hat : e.at i with
        | some c => exact ⟨c, rfl⟩
        | none =>
          exfalso
          unfold Eff.at at hat
          cases hwr : e.wr with
          | none => simp [hwr, hb] at hat
          | some x => obtain ⟨j, c⟩ := x; simp only [hwr, hb] at hat; split at hat <;> simp at hat
    · rw [if_neg hdk] at hk
      obtain ⟨b, hb⟩ := h.live k av i hk hi
      exact hgrow b hb
  · refine ⟨ho.os.trans h.keeps.os, ho.tape.trans h.keeps.tape, ho.output.trans h.keeps.output, Nat.le_trans h.keeps.size ho.size, fun k hk hM => ?_⟩
    rw [← h.keeps.block k hk hM]
    refine ho.keep k (by omega) fun x hx hEq => ?_
    obtain ⟨c, hc⟩ := hw x hx
    rcases h.own _ _ hc with h1 | h1
    · omega
    · rw [← hEq] at h1; exact hM h1

/-! ### An operation met alone, and the whole region -/

section
variable (P : Program) (F : Fr) (ops : Array Oper)

def OpOK (o : Oper) (S : St) (e : Eff) : Prop :=
  ∀ (ρ : Nat → Nat) (a : Act) (w : World) (Q : Exit → Act → World → Prop) (K : Act → World → Prop),
    (∀ k ∈ o.looksAt ops, ∀ av, S.slot k = some av → a.tmps[k]? = some (av.to ρ)) →
    (∀ i ∈ e.rd, ∀ b, S.blk i = some b → w.heap[ρ i]? = some b.obj) →
    Keeps F w →
    (∀ v w' n, Out ρ e w v w' n → K (a.put o.dst v) w') →
    if Region.wanted o (yielded ops a.tmps) then o.wp P a w K Q else K (a.put o.dst undef) w

def Walk : St → List Oper → List Eff → Prop
  | S, o :: l, e :: es => OpOK P F ops o S e ∧ Walk (S.step o.dst e) l es
  | _, [], [] => True
  | _, _, _ => False

variable {P F ops}
theorem Walk.nil (S : St) : Walk P F ops S [] [] := trivial
theorem Walk.cons {S : St} {o : Oper} {l : List Oper} {e : Eff} {es : List Eff} (h : OpOK P F ops o S e) (h' : Walk P F ops (S.step o.dst e) l es) : Walk P F ops S (o :: l) (e :: es) := ⟨h, h'⟩
end

def St.after (S : St) : List Oper → List Eff → St
  | o :: l, e :: es => (S.step o.dst e).after l es
  | _, _ => S

def preds (o : Oper) : List Nat := (o.after.toList.filter (Region.binds .any)).map (·.on)

/-- The first operation that writes a slot, a block; that makes a block. -/
def writer (l : List Oper) (k : Nat) : Option Nat := l.findIdx? fun o => o.dst == some k
def wrOf (es : List Eff) (i : Nat) : Option Nat := es.findIdx? fun e => match e.wr with | some x => x.1 == i | none => false
def newOf (es : List Eff) (i : Nat) : Option Nat := es.findIdx? fun e => match e.new with | some x => x.1 == i | none => false

def ordered (l : List Oper) (i j : Nat) : Bool :=
  match l[i]?, l[j]? with
  | some oi, some oj => if j < i then (preds oi).contains j else (j == i || (preds oj).contains i)
  | _, _ => false

/-- Has operation j been done whenever i may be? (Two edges are looked at.) -/
def comesFirst (l : List Oper) (i j : Nat) : Bool :=
  match l[i]? with
  | some oi => (preds oi).any fun p => p == j || (match l[p]? with | some op => (preds op).any fun q => q == j || (match l[q]? with | some oq => (preds oq).contains j | none => false) | none => false)
  | none => false

def checkAt (N : Nat) (S : St) (l : List Oper) (es : List Eff) (i : Nat) (o : Oper) (e : Eff) : Bool :=
  (preds o).all (· < i) &&
  (match o.dst with | some d => d < N && writer l d == some i | none => true) &&
  ((o.looksAt l.toArray).all fun k => match writer l k with | some j => ordered l i j | none => true) &&
  (e.rd.all fun b => (match wrOf es b with | some j => ordered l i j | none => true) && (match newOf es b with | some j => j < i && comesFirst l i j | none => (S.blk b).isSome)) &&
  (match e.wr with | some x => wrOf es x.1 == some i && e.rd.contains x.1 | none => true) &&
  (match e.new with | some x => newOf es x.1 == some i && (S.blk x.1).isNone | none => true) &&
  (match e.val.id? with | some b => newOf es b == some i || (match newOf es b with | some j => j < i && comesFirst l i j | none => (S.blk b).isSome) | none => true)

def checkFrom (N : Nat) (S : St) (l : List Oper) (es : List Eff) : Nat → List Oper → List Eff → Bool
  | i, o :: l', e :: es' => checkAt N S l es i o e && checkFrom N S l es (i + 1) l' es'
  | _, [], [] => true
  | _, _, _ => false

def check (N : Nat) (S : St) (l : List Oper) (es : List Eff) : Bool := checkFrom N S l es 0 l es

theorem checkFrom_at {N : Nat} {S : St} {l : List Oper} {es : List Eff} : ∀ (i : Nat) (l' : List Oper) (es' : List Eff), checkFrom N S l es i l' es' = true →
    l'.length = es'.length ∧ ∀ j o, l'[j]? = some o → ∃ e, es'[j]? = some e ∧ checkAt N S l es (i + j) o e = true := by
  intro i l'
  induction l' generalizing i with
  | nil => intro es' h; cases es' with | nil => exact ⟨rfl, fun j o h => by simp at h⟩ | cons e es' => simp [checkFrom] at h
  | cons o l' ih =>
    intro es' h
    cases es' with
    | nil => simp [checkFrom] at h
    | cons e es' =>
      simp only [checkFrom, Bool.and_eq_true] at h
      obtain ⟨h1, h2⟩ := ih (i + 1) es' h.2
      refine ⟨by simp [h1], fun j o' hj => ?_⟩
      cases j with
      | zero => simp at hj; subst hj; exact ⟨e, rfl, h.1⟩
      | succ j => obtain ⟨e', he', hc⟩ := h2 j o' (by simpa using hj); exact ⟨e', by simpa using he', by rw [show i + (j + 1) = i + 1 + j by omega]; exact hc⟩

/-! What the slots and blocks hold when just the operations of 'done' have been taken. -/
section
variable (S : St) (l : List Oper) (es : List Eff)
def slotD (done : Nat → Bool) (k : Nat) : Option AV :=
  match writer l k with
  | some i => if done i then (es[i]?).map (·.val) else S.slot k
  | none => S.slot k
def baseD (done : Nat → Bool) (b : Nat) : Option Blk :=
  match newOf es b with
  | some i => if done i then ((es[i]?).bind (·.new)).map (·.2) else S.blk b
  | none => S.blk b
def blkD (done : Nat → Bool) (b : Nat) : Option Blk :=
  match wrOf es b with
  | some i => if done i then ((es[i]?).bind (·.wr)).map (·.2) else baseD S es done b
  | none => baseD S es done b

/-- The state of 'done', as lists (so that 'Rep' can be said of it). -/
structure IsAt (done : Nat → Bool) (T : St) : Prop where
  slot : ∀ k, T.slot k = slotD S l es done k
  blk : ∀ b, T.blk b = blkD S es done b
end

def Closed (l : List Oper) (done : Nat → Bool) : Prop := ∀ j o, l[j]? = some o → done j = true → ∀ p ∈ preds o, done p = true

theorem comesFirst_done {l : List Oper} {done : Nat → Bool} {i j : Nat} {o : Oper} (hi : l[i]? = some o) (hp : ∀ p ∈ preds o, done p = true) (hcl : Closed l done)
    (h : comesFirst l i j = true) : done j = true := by
  unfold comesFirst at h
  simp only [hi, List.any_eq_true, Bool.or_eq_true, beq_iff_eq] at h
  obtain ⟨p, hpm, h⟩ := h
  have dp := hp p hpm
  rcases h with rfl | h
  · exact dp
  · cases hop : l[p]? with
    | none => simp [hop] at h
    | some op =>
      simp only [hop, List.any_eq_true, Bool.or_eq_true, beq_iff_eq] at h
      obtain ⟨q, hq, h⟩ := h
      have dq := hcl p op hop dp q hq
      rcases h with rfl | h
      · exact dq
      · cases hoq : l[q]? with
        | none => simp [hoq] at h
        | some oq =>
          simp only [hoq, List.contains_iff_mem] at h
          exact hcl q oq hoq dq j h

theorem findIdx?_spec {α : Type} {p : α → Bool} {l : List α} {i : Nat} (h : l.findIdx? p = some i) : ∃ x, l[i]? = some x ∧ p x = true := by
  obtain ⟨hlt, hp, _⟩ := List.findIdx?_eq_some_iff_getElem.1 h
  exact ⟨l[i], List.getElem?_eq_getElem hlt, hp⟩

theorem writer_spec {l : List Oper} {k i : Nat} (h : writer l k = some i) : ∃ o, l[i]? = some o ∧ o.dst = some k := by
  obtain ⟨x, hx, hp⟩ := findIdx?_spec h
  exact ⟨x, hx, by simpa using hp⟩
theorem wrOf_spec {es : List Eff} {b i : Nat} (h : wrOf es b = some i) : ∃ e x, es[i]? = some e ∧ e.wr = some x ∧ x.1 = b := by
  obtain ⟨e, he, hp⟩ := findIdx?_spec h
  cases hw : e.wr with
  | none => simp [hw] at hp
  | some x => simp only [hw, beq_iff_eq] at hp; exact ⟨e, x, he, hw, hp⟩
theorem newOf_spec {es : List Eff} {b i : Nat} (h : newOf es b = some i) : ∃ e x, es[i]? = some e ∧ e.new = some x ∧ x.1 = b := by
  obtain ⟨e, he, hp⟩ := findIdx?_spec h
  cases hw : e.new with
  | none => simp [hw] at hp
  | some x => simp only [hw, beq_iff_eq] at hp; exact ⟨e, x, he, hw, hp⟩

section
variable {N : Nat} {S : St} {l : List Oper} {es : List Eff} (hck : check N S l es = true)
include hck

theorem check_at {i : Nat} {o : Oper} (hi : l[i]? = some o) : ∃ e, es[i]? = some e ∧ checkAt N S l es i o e = true := by
  obtain ⟨_, h⟩ := checkFrom_at 0 l es hck
  obtain ⟨e, he, hc⟩ := h i o hi
  exact ⟨e, he, by simpa using hc⟩
theorem check_len : l.length = es.length := (checkFrom_at 0 l es hck).1
theorem check_of_eff {i : Nat} {e : Eff} (hi : es[i]? = some e) : ∃ o, l[i]? = some o ∧ checkAt N S l es i o e = true := by
  have hlt : i < l.length := by rw [check_len hck]; exact (List.getElem?_eq_some_iff.1 hi).1
  obtain ⟨e', he', hc⟩ := check_at hck (List.getElem?_eq_getElem hlt)
  rw [hi] at he'; cases he'
  exact ⟨_, List.getElem?_eq_getElem hlt, hc⟩

/-- A write to a block that is made in the region comes behind its making. -/
theorem write_behind_new {done : Nat → Bool} (hcl : Closed l done) {b i j : Nat} (hw : wrOf es b = some j) (hn : newOf es b = some i) (hj : done j = true) : done i = true := by
  obtain ⟨e, x, he, hx, rfl⟩ := wrOf_spec hw
  obtain ⟨o, ho, hc⟩ := check_of_eff hck he
  simp only [checkAt, Bool.and_eq_true, hx] at hc
  obtain ⟨⟨⟨⟨_, h4⟩, h5⟩, _⟩, _⟩ := hc
  have hmem : x.1 ∈ e.rd := by simpa using h5.2
  have := List.all_eq_true.1 h4 _ hmem
  simp only [hn, Bool.and_eq_true] at this
  exact comesFirst_done ho (hcl j o ho hj) hcl this.2.2

omit hck in
theorem base_some {done : Nat → Bool} {b : Nat} (h : match newOf es b with | some j => done j = true | none => (S.blk b).isSome = true) : ∃ x, blkD S es done b = some x := by
  have hb : ∃ x, baseD S es done b = some x := by
    unfold baseD
    cases hn : newOf es b with
    | none => simp only [hn] at h ⊢; exact Option.isSome_iff_exists.1 h
    | some j =>
      simp only [hn] at h
      obtain ⟨e, x, he, hx, _⟩ := newOf_spec hn
      simp [h, he, hx]
  obtain ⟨x, hx⟩ := hb
  unfold blkD
  cases hw : wrOf es b with
  | none => exact ⟨x, hx⟩
  | some j =>
    simp only
    split
    · obtain ⟨e, y, he, hy, _⟩ := wrOf_spec hw
      exact ⟨y.2, by simp [he, hy]⟩
    · exact ⟨x, hx⟩

/-- The lexical state. -/
theorem isAt_step {done : Nat → Bool} {T : St} (hcl : Closed l done) (hT : IsAt S l es done T) {i : Nat} {o : Oper} {e : Eff} (ho : l[i]? = some o) (he : es[i]? = some e)
    (hnd : done i = false) {done' : Nat → Bool} (hd' : ∀ j, done' j = if j = i then true else done j) : IsAt S l es done' (T.step o.dst e) := by
  obtain ⟨e', he', hc⟩ := check_at hck ho
  rw [he] at he'; cases he'
  simp only [checkAt, Bool.and_eq_true] at hc
  obtain ⟨⟨⟨⟨⟨⟨_, h2⟩, _⟩, h4⟩, h5⟩, h6⟩, _⟩ := hc
  refine ⟨fun k => ?_, fun b => ?_⟩
  · rw [slot_step, hT.slot]
    by_cases hk : o.dst = some k
    · simp only [hk, Bool.and_eq_true, beq_iff_eq] at h2
      simp [slotD, hk, h2.2, hd', he]
    · rw [if_neg hk]
      unfold slotD
      cases hw : writer l k with
      | none => rfl
      | some j =>
        have hji : j ≠ i := by
          rintro rfl
          obtain ⟨o', ho', hk'⟩ := writer_spec hw
          rw [ho] at ho'; cases ho'; exact hk hk'
        simp [hd', hji]
  · rw [blk_step, hT.blk]
    unfold Eff.at
    have hbase : ∀ (hne : ∀ x, e.new = some x → x.1 ≠ b), baseD S es done' b = baseD S es done b := by
      intro hne
      unfold baseD
      cases hn : newOf es b with
      | none => rfl
      | some j =>
        have hji : j ≠ i := by
          rintro rfl
          obtain ⟨e', x, he', hx, hb⟩ := newOf_spec hn
          rw [he] at he'; cases he'; exact hne x hx hb
        simp [hd', hji]
    have hnewcase : ∀ x, e.new = some x → x.1 = b → (∀ y, e.wr = some y → y.1 ≠ b) → some x.2 = blkD S es done' b := by
      intro x hx hb hnw
      simp only [hx, Bool.and_eq_true, beq_iff_eq] at h6
      have hn : newOf es b = some i := by rw [← hb]; exact h6.1
      unfold blkD baseD
      cases hw : wrOf es b with
      | none => simp [hn, hd', he, hx]
      | some j =>
        have hji : j ≠ i := by
          rintro rfl
          obtain ⟨e', y, he', hy, hb'⟩ := wrOf_spec hw
          rw [he] at he'; cases he'; exact hnw y hy hb'
        have hdj : done j = false := by
          cases hdj : done j with
          | false => rfl
          | true => have := write_behind_new hck hcl hw hn hdj; rw [hnd] at this; cases this
        simp [hd', hji, hdj, hn, he, hx]
    have hrest : (∀ x, e.wr = some x → x.1 ≠ b) → (∀ x, e.new = some x → x.1 ≠ b) → blkD S es done b = blkD S es done' b := by
      intro hnw hnn
      unfold blkD
      rw [hbase hnn]
      cases hw : wrOf es b with
      | none => rfl
      | some j =>
        have hji : j ≠ i := by
          rintro rfl
          obtain ⟨e', y, he', hy, hb'⟩ := wrOf_spec hw
          rw [he] at he'; cases he'; exact hnw y hy hb'
        simp [hd', hji]
    have hwrcase : ∀ x, e.wr = some x → x.1 = b → some x.2 = blkD S es done' b := by
      intro x hx hb
      simp only [hx, Bool.and_eq_true, beq_iff_eq] at h5
      have hw : wrOf es b = some i := by rw [← hb]; exact h5.1
      simp [blkD, hw, hd', he, hx]
    cases hwr : e.wr with
    | some x =>
      obtain ⟨j, c⟩ := x
      simp only
      by_cases hbj : b = j
      · rw [if_pos hbj]; exact hwrcase _ hwr hbj.symm
      · rw [if_neg hbj]
        have hnw : ∀ y, e.wr = some y → y.1 ≠ b := fun y hy => by rw [hwr] at hy; cases hy; exact fun t => hbj t.symm
        cases hne : e.new with
        | some y =>
          obtain ⟨j', c'⟩ := y
          simp only
          by_cases hbj' : b = j'
          · rw [if_pos hbj']; exact hnewcase _ hne hbj'.symm hnw
          · rw [if_neg hbj']; exact hrest hnw (fun y hy => by rw [hne] at hy; cases hy; exact fun t => hbj' t.symm)
        | none => exact hrest hnw (fun y hy => by rw [hne] at hy; cases hy)
    | none =>
      have hnw : ∀ y, e.wr = some y → y.1 ≠ b := fun y hy => by rw [hwr] at hy; cases hy
      simp only
      cases hne : e.new with
      | some y =>
        obtain ⟨j', c'⟩ := y
        simp only
        by_cases hbj' : b = j'
        · rw [if_pos hbj']; exact hnewcase _ hne hbj'.symm hnw
        · rw [if_neg hbj']; exact hrest hnw (fun y hy => by rw [hne] at hy; cases hy; exact fun t => hbj' t.symm)
      | none => exact hrest hnw (fun y hy => by rw [hne] at hy; cases hy)
end

/-- The lexical state at operation i. -/
def lexBefore (i : Nat) : Nat → Bool := fun j => decide (j < i)

theorem lex_step {N : Nat} {S : St} {l : List Oper} {es : List Eff} (hck : check N S l es = true) {i : Nat} {T : St} {o : Oper} {e : Eff} (hT : IsAt S l es (lexBefore i) T)
    (ho : l[i]? = some o) (he : es[i]? = some e) : IsAt S l es (lexBefore (i + 1)) (T.step o.dst e) := by
  refine isAt_step hck ?_ hT ho he (by simp [lexBefore]) (fun j => by by_cases h : j = i <;> simp [lexBefore, h] <;> omega)
  intro j oj hoj hj p hp
  obtain ⟨e', _, hc⟩ := check_at hck hoj
  simp only [checkAt, Bool.and_eq_true] at hc
  have := List.all_eq_true.1 hc.1.1.1.1.1.1 p hp
  simp [lexBefore] at *
  omega

/-- Each operation of the walk, with the lexical state before it. -/
theorem walk_at {P : Program} {F : Fr} {N : Nat} {S : St} {l : List Oper} {es : List Eff} (hck : check N S l es = true) :
    ∀ (k : Nat) (T : St) (l' : List Oper) (es' : List Eff), (∀ j, l'[j]? = l[k + j]?) → (∀ j, es'[j]? = es[k + j]?) → IsAt S l es (lexBefore k) T →
      Walk P F l.toArray T l' es' → (∀ j o e, l'[j]? = some o → es'[j]? = some e → ∃ T', IsAt S l es (lexBefore (k + j)) T' ∧ OpOK P F l.toArray o T' e) ∧
        IsAt S l es (lexBefore (k + l'.length)) (T.after l' es') := by
  intro k T l'
  induction l' generalizing k T with
  | nil =>
    intro es' _ _ hT _
    exact ⟨fun j o e h => by simp at h, by simpa [St.after] using hT⟩
  | cons o l' ih =>
    intro es' hl he hT hw
    cases es' with
    | nil => exact hw.elim
    | cons e es' =>
      obtain ⟨h0, h1⟩ := hw
      have ho : l[k]? = some o := by simpa using (hl 0).symm
      have hee : es[k]? = some e := by simpa using (he 0).symm
      obtain ⟨h2, h3⟩ := ih (k + 1) (T.step o.dst e) es' (fun j => by have := hl (j + 1); simp at this; rw [this]; congr 1; omega)
        (fun j => by have := he (j + 1); simp at this; rw [this]; congr 1; omega) (lex_step hck hT ho hee) h1
      refine ⟨fun j o' e' hj hj' => ?_, ?_⟩
      · cases j with
        | zero => simp at hj hj'; subst hj hj'; exact ⟨T, hT, h0⟩
        | succ j => obtain ⟨T', a, b⟩ := h2 j o' e' (by simpa using hj) (by simpa using hj'); exact ⟨T', by rw [show k + (j + 1) = k + 1 + j by omega]; exact a, b⟩
      · rw [show k + (o :: l').length = k + 1 + l'.length by simp; omega]; exact h3

/-- THE STEP IN ANY ORDER. -/
theorem any_step {P : Program} {F : Fr} {N : Nat} {S : St} {l : List Oper} {es : List Eff} (hck : check N S l es = true) {done : Nat → Bool} (hcl : Closed l done)
    {i : Nat} {o : Oper} {e : Eff} (ho : l[i]? = some o) (he : es[i]? = some e) (hnd : done i = false) (hpr : ∀ p ∈ preds o, done p = true)
    {L T : St} (hL : IsAt S l es (lexBefore i) L) (hT : IsAt S l es done T) (hok : OpOK P F l.toArray o L e) {ρ : Nat → Nat} {a : Act} {w : World} (hrep : Rep N T ρ F a w)
    {done' : Nat → Bool} (hd' : ∀ j, done' j = if j = i then true else done j) {Q : Exit → Act → World → Prop} {K : Act → World → Prop}
    (hK : ∀ T' ρ' a' w', (∀ i b, S.blk i = some b → ρ' i = ρ i) → IsAt S l es done' T' → Rep N T' ρ' F a' w' → K a' w') : wpOp P l.toArray Q i K a w := by
  obtain ⟨e', he', hc⟩ := check_at hck ho
  rw [he] at he'; cases he'
  simp only [checkAt, Bool.and_eq_true] at hc
  obtain ⟨⟨⟨⟨⟨⟨h1, h2⟩, h3⟩, h4⟩, h5⟩, h6⟩, h7⟩ := hc
  have later : ∀ j, ordered l i j = true → ¬ j < i → done j = false := by
    intro j hord hji
    unfold ordered at hord
    cases hoj : l[j]? with
    | none => simp [ho, hoj] at hord
    | some oj =>
      simp only [ho, hoj, if_neg hji, Bool.or_eq_true, beq_iff_eq, List.contains_iff_mem] at hord
      rcases hord with rfl | hord
      · exact hnd
      · cases hdj : done j with
        | false => rfl
        | true => have := hcl j oj hoj hdj i hord; rw [hnd] at this; cases this
  have sooner : ∀ j, ordered l i j = true → j < i → done j = true := by
    intro j hord hji
    unfold ordered at hord
    cases hoj : l[j]? with
    | none => simp [ho, hoj] at hord
    | some oj =>
      simp only [ho, hoj, if_pos hji, List.contains_iff_mem] at hord
      exact hpr j hord
  -- what it looks at
  have hslot : ∀ k ∈ o.looksAt l.toArray, L.slot k = T.slot k := by
    intro k hk
    have hk' := List.all_eq_true.1 h3 k hk
    rw [hL.slot, hT.slot]
    unfold slotD
    cases hw : writer l k with
    | none => rfl
    | some j =>
      simp only [hw] at hk'
      by_cases hji : j < i
      · simp [lexBefore, hji, sooner j hk' hji]
      · simp [lexBefore, hji, later j hk' hji]
  have hblk : ∀ b ∈ e.rd, L.blk b = T.blk b := by
    intro b hb
    have hb' := List.all_eq_true.1 h4 b hb
    rw [Bool.and_eq_true] at hb'
    have hbase : baseD S es (lexBefore i) b = baseD S es done b := by
      unfold baseD
      cases hn : newOf es b with
      | none => rfl
      | some j =>
        simp only [hn, Bool.and_eq_true, decide_eq_true_eq] at hb'
        simp [lexBefore, hb'.2.1, comesFirst_done ho hpr hcl hb'.2.2]
    rw [hL.blk, hT.blk]
    unfold blkD
    rw [hbase]
    cases hw : wrOf es b with
    | none => rfl
    | some j =>
      simp only [hw] at hb'
      by_cases hji : j < i
      · simp [lexBefore, hji, sooner j hb'.1 hji]
      · simp [lexBefore, hji, later j hb'.1 hji]
  have hthere : ∀ b, (match newOf es b with | some j => decide (j < i) && comesFirst l i j | none => (S.blk b).isSome) = true → ∃ x, T.blk b = some x := by
    intro b hb
    rw [hT.blk]
    refine base_some ?_
    cases hn : newOf es b with
    | none => simpa [hn] using hb
    | some j =>
      simp only [hn, Bool.and_eq_true] at hb
      exact comesFirst_done ho hpr hcl hb.2
  have hrd : ∀ b ∈ e.rd, ∃ x, T.blk b = some x := by
    intro b hb
    have hb' := List.all_eq_true.1 h4 b hb
    rw [Bool.and_eq_true] at hb'
    exact hthere b hb'.2
  have hnewnone : ∀ x, e.new = some x → T.blk x.1 = none := by
    intro x hx
    simp only [hx, Bool.and_eq_true, beq_iff_eq, Option.isNone_iff_eq_none] at h6
    rw [hT.blk]
    unfold blkD baseD
    have hn := h6.1
    simp only [hn, hnd]
    cases hw : wrOf es x.1 with
    | none => simpa using h6.2
    | some j =>
      have hdj : done j = false := by
        cases hdj : done j with
        | false => rfl
        | true => have := write_behind_new hck hcl hw hn hdj; rw [hnd] at this; cases this
      simpa [hdj] using h6.2
  have hwr : ∀ x, e.wr = some x → ∃ b, T.blk x.1 = some b := by
    intro x hx
    simp only [hx, Bool.and_eq_true, beq_iff_eq] at h5
    exact hrd x.1 (by simpa using h5.2)
  have hval : ∀ b, e.val.id? = some b → (∃ x, T.blk b = some x) ∨ ∃ x, e.new = some (b, x) := by
    intro b hb
    simp only [hb, Bool.or_eq_true, beq_iff_eq] at h7
    rcases h7 with h7 | h7
    · obtain ⟨e', x, he', hx, hxb⟩ := newOf_spec h7
      rw [he] at he'; cases he'
      obtain ⟨b', c⟩ := x
      exact .inr ⟨c, by rw [hx, ← hxb]⟩
    · exact .inl (hthere b h7)
  have hdst : ∀ d, o.dst = some d → d < N := by
    intro d hd
    simp only [hd, Bool.and_eq_true, decide_eq_true_eq] at h2
    exact h2.1
  have := hok ρ a w Q K (fun k hk av hav => hrep.slots k av (by rw [← hslot k hk]; exact hav)) (fun b hb x hx => hrep.mem b x (by rw [← hblk b hb]; exact hx)) hrep.keeps
    (fun v w' n out => hK _ _ _ _ (fun j b hj => by
      unfold upd
      cases hn : e.new with
      | none => rfl
      | some x =>
        simp only [hn, Bool.and_eq_true, Option.isNone_iff_eq_none] at h6
        simp only
        split
        · rename_i hjx; rw [hjx, h6.2] at hj; cases hj
        · rfl) (isAt_step hck hcl hT ho he hnd hd') (hrep.step hdst hnewnone hwr hval out))
  unfold wpOp
  simp only [List.getElem?_toArray, ho]
  split at this
  · rename_i hw; rw [if_pos hw]; exact .inl this
  · rename_i hw; rw [if_neg hw]; exact this

/-- A REGION, WHETHER IT DRAWS ITS ORDER OR NOT. -/
theorem region_dag' {P : Program} {id : Nat} {l : List Oper} {draw : Bool} {N : Nat} {S : St} {ρ : Nat → Nat} {F : Fr} {a : Act} {w : World} {Q : Exit → Act → World → Prop} {es : List Eff}
    (hm : P.follows .mixedOrders = true) (hrep : Rep N S ρ F a w) (hw : Walk P F l.toArray S l es) (hck : check N S l es = true)
    (hQ : ∀ ρ' a' w', (∀ i b, S.blk i = some b → ρ' i = ρ i) → Rep N (S.after l es) ρ' F a' w' → Q .normal a' w') : (Code.region id l.toArray draw).wp P Q a w := by
  have hlex0 : IsAt S l es (lexBefore 0) S := by
    refine ⟨fun k => ?_, fun b => ?_⟩
    · unfold slotD; cases writer l k <;> simp [lexBefore]
    · unfold blkD baseD; cases wrOf es b <;> cases newOf es b <;> simp [lexBefore]
  obtain ⟨hat, hend⟩ := walk_at (P := P) (F := F) hck 0 S l es (by simp) (by simp) hlex0 hw
  simp only [Nat.zero_add] at hat hend
  have hfin : ∀ (done : Nat → Bool) T ρ' a' w', (∀ j, j < l.length → done j = true) → (∀ i b, S.blk i = some b → ρ' i = ρ i) → IsAt S l es done T → Rep N T ρ' F a' w' → Q .normal a' w' := by
    intro done T ρ' a' w' hall hag hT hr
    refine hQ ρ' a' w' hag (hr.of_look (fun k => ?_) (fun b => ?_))
    · rw [hend.slot, hT.slot]
      unfold slotD
      cases hwk : writer l k with
      | none => rfl
      | some j =>
        obtain ⟨o, ho, _⟩ := writer_spec hwk
        have := (List.getElem?_eq_some_iff.1 ho).1
        simp [lexBefore, this, hall j this]
    · rw [hend.blk, hT.blk]
      have hlt : ∀ j e, es[j]? = some e → j < l.length := fun j e h => by rw [check_len hck]; exact (List.getElem?_eq_some_iff.1 h).1
      have hbase : baseD S es (lexBefore l.length) b = baseD S es done b := by
        unfold baseD
        cases hn : newOf es b with
        | none => rfl
        | some j =>
          obtain ⟨e, x, he, _, _⟩ := newOf_spec hn
          simp [lexBefore, hlt j e he, hall j (hlt j e he)]
      unfold blkD
      rw [hbase]
      cases hn : wrOf es b with
      | none => rfl
      | some j =>
        obtain ⟨e, x, he, _, _⟩ := wrOf_spec hn
        simp [lexBefore, hlt j e he, hall j (hlt j e he)]
  cases draw with
  | false =>
    refine wp_region ?_
    have key : ∀ (m k : Nat) T ρ' a' w', k + m = l.length → (∀ i b, S.blk i = some b → ρ' i = ρ i) → IsAt S l es (lexBefore k) T → Rep N T ρ' F a' w' → wpOps P l.toArray Q (List.range' k m) a' w' := by
      intro m
      induction m with
      | zero =>
        intro k T ρ' a' w' hk hag hT hr
        simp only [List.range'_zero, wpOps]
        exact hfin _ _ _ _ _ (fun j hj => by simp [lexBefore]; omega) hag hT hr
      | succ m ih =>
        intro k T ρ' a' w' hk hag hT hr
        rw [List.range'_succ, wpOps_cons]
        have hlt : k < l.length := by omega
        have ho : l[k]? = some l[k] := List.getElem?_eq_getElem hlt
        obtain ⟨e, he, hc⟩ := check_at hck ho
        obtain ⟨L, hL, hok⟩ := hat k _ e ho he
        refine any_step hck (done := lexBefore k) (done' := lexBefore (k + 1)) ?_ ho he (by simp [lexBefore]) ?_ hL hT hok hr (fun j => by by_cases h : j = k <;> simp [lexBefore, h] <;> omega)
          (fun T' ρ'' a'' w'' hag' h1 h2 => ih (k + 1) T' ρ'' a'' w'' (by omega) (fun i b hi => (hag' i b hi).trans (hag i b hi)) h1 h2)
        · intro j oj hoj hj p hp
          obtain ⟨e', _, hc'⟩ := check_at hck hoj
          simp only [checkAt, Bool.and_eq_true] at hc'
          have := List.all_eq_true.1 hc'.1.1.1.1.1.1 p hp
          simp [lexBefore] at *
          omega
        · intro p hp
          simp only [checkAt, Bool.and_eq_true] at hc
          simpa [lexBefore] using List.all_eq_true.1 hc.1.1.1.1.1.1 p hp
    have := key l.length 0 S ρ a w (by omega) (fun _ _ _ => rfl) hlex0 hrep
    simpa [List.range_eq_range'] using this
  | true =>
    refine wp_region_any hm ?_
    have key : ∀ (fuel : Nat) (listed : Array Bool) T ρ' a' w', listed.size = l.length → ((List.range l.length).countP fun j => !listed.getD j false) ≤ fuel →
        Closed l (fun j => listed.getD j false) → (∀ i b, S.blk i = some b → ρ' i = ρ i) → IsAt S l es (fun j => listed.getD j false) T → Rep N T ρ' F a' w' → wpAny P .any l.toArray Q fuel listed a' w' := by
      intro fuel
      induction fuel with
      | zero =>
        intro listed T ρ' a' w' hsz hcount hcl hag hT hr
        have hall : ∀ j, j < l.length → listed.getD j false = true := by
          intro j hj
          have h0 : (List.range l.length).countP (fun j => !listed.getD j false) = 0 := Nat.le_zero.1 hcount
          have := List.countP_eq_zero.1 h0 j (List.mem_range.2 hj)
          simpa using this
        refine ⟨?_, hfin _ _ _ _ _ hall hag hT hr⟩
        rw [List.eq_nil_iff_forall_not_mem]
        intro j hj
        rw [mem_ready] at hj
        obtain ⟨h0, o, ho, _⟩ := hj
        have hlt : j < l.length := by
          simp at ho; exact (List.getElem?_eq_some_iff.1 ho).1
        have h1 := hall j hlt
        have hjs : j < listed.size := by omega
        simp [hjs] at h0 h1
        rw [h0] at h1; cases h1
      | succ fuel ih =>
        intro listed T ρ' a' w' hsz hcount hcl hag hT hr
        refine ⟨fun hnil => ?_, fun i hi => ?_⟩
        · refine hfin (fun j => listed.getD j false) _ _ _ _ ?_ hag hT hr
          intro j
          induction j using Nat.strongRecOn with
          | _ j ihj =>
            intro hj
            cases hlj : listed.getD j false with
            | true => rfl
            | false =>
              exfalso
              have hmem : j ∈ Region.ready .any l.toArray listed := by
                rw [mem_ready]
                have hjs : j < listed.size := by omega
                refine ⟨by simp [hjs] at hlj ⊢; exact hlj, l[j], by simp [hj], fun e he hb => ?_⟩
                obtain ⟨e', _, hc⟩ := check_at hck (List.getElem?_eq_getElem hj)
                simp only [checkAt, Bool.and_eq_true] at hc
                have hp : e.on ∈ preds l[j] := List.mem_map.2 ⟨e, List.mem_filter.2 ⟨by simpa using he, hb⟩, rfl⟩
                have hlt := List.all_eq_true.1 hc.1.1.1.1.1.1 _ hp
                simp only [decide_eq_true_eq] at hlt
                exact ihj _ hlt (by omega)
              rw [hnil] at hmem; cases hmem
        · rw [mem_ready] at hi
          obtain ⟨h0, o, ho, hpre⟩ := hi
          simp only [List.getElem?_toArray] at ho
          have hlt : i < l.length := (List.getElem?_eq_some_iff.1 ho).1
          have his : i < listed.size := by omega
          have hnd : listed.getD i false = false := by simp [his] at h0 ⊢; exact h0
          obtain ⟨e, he, hc⟩ := check_at hck ho
          obtain ⟨L, hL, hok⟩ := hat i o e ho he
          have hpr : ∀ p ∈ preds o, listed.getD p false = true := by
            intro p hp
            obtain ⟨ed, hed, rfl⟩ := List.mem_map.1 hp
            obtain ⟨hmem, hb⟩ := List.mem_filter.1 hed
            exact hpre ed (by simpa using hmem) hb
          have hd' : ∀ j, (listed.setIfInBounds i true).getD j false = if j = i then true else listed.getD j false := by
            intro j
            by_cases hji : j = i
            · subst hji; simp [his]
            · rw [if_neg hji, getD_set_ne false (fun t => hji t.symm)]
          refine any_step hck (done := fun j => listed.getD j false) (done' := fun j => (listed.setIfInBounds i true).getD j false) hcl ho he hnd hpr hL hT hok hr hd'
            (fun T' ρ'' a'' w'' hag' h1 h2 => ih _ T' ρ'' a'' w'' (by simpa using hsz) ?_ ?_ (fun i b hi => (hag' i b hi).trans (hag i b hi)) h1 h2)
          · -- one fewer is left
            have hlt' : (List.range l.length).countP (fun j => !(listed.setIfInBounds i true).getD j false) < (List.range l.length).countP (fun j => !listed.getD j false) := by
              have hsub : ∀ (r : List Nat), i ∈ r → (r.countP fun j => !(listed.setIfInBounds i true).getD j false) < r.countP fun j => !listed.getD j false := by
                intro r
                have hle : ∀ r : List Nat, (r.countP fun j => !(listed.setIfInBounds i true).getD j false) ≤ r.countP fun j => !listed.getD j false := by
                  intro r
                  refine List.countP_mono_left fun j _ hj => ?_
                  rw [hd' j] at hj
                  by_cases hji : j = i
                  · simp [hji] at hj
                  · simpa [hji] using hj
                induction r with
                | nil => intro h; cases h
                | cons x r ihr =>
                  intro hmem
                  rw [List.countP_cons, List.countP_cons]
                  by_cases hxi : x = i
                  · have e1 : (!(listed.setIfInBounds i true).getD x false) = false := by rw [hd' x, if_pos hxi]; rfl
                    have e2 : (!listed.getD x false) = true := by rw [hxi, hnd]; rfl
                    rw [e1, e2]
                    have := hle r
                    simp only [Bool.false_eq_true, if_false, if_true]
                    omega
                  · have e1 : (!(listed.setIfInBounds i true).getD x false) = (!listed.getD x false) := by rw [hd' x, if_neg hxi]
                    rw [e1]
                    have := ihr ((List.mem_cons.1 hmem).resolve_left (fun t => hxi t.symm))
                    omega
              exact hsub _ (List.mem_range.2 hlt)
            omega
          · intro j oj hoj hj p hp
            simp only [hd'] at hj ⊢
            by_cases hji : j = i
            · subst hji
              rw [ho] at hoj; cases hoj
              have := hpr p hp
              by_cases hpi : p = j
              · simp [hpi]
              · rw [if_neg hpi]; exact this
            · rw [if_neg hji] at hj
              have := hcl j oj hoj hj p hp
              by_cases hpi : p = i
              · simp [hpi]
              · rw [if_neg hpi]; exact this
    have hsz : (List.toArray l).size = l.length := by simp
    have hgd : ∀ j, (Array.replicate l.toArray.size false).getD j false = false := by
      intro j
      rw [Array.getD_eq_getD_getElem?, Array.getElem?_replicate]
      split <;> rfl
    refine key _ _ S ρ a { w with drawn := w.drawn + 1 } (by simp) ?_ ?_ (fun _ _ _ => rfl) ?_ ?_
    · refine Nat.le_trans List.countP_le_length (by simp)
    · intro j oj hoj hj; simp only [hgd] at hj; cases hj
    · have : (fun j => (Array.replicate l.toArray.size false).getD j false) = lexBefore 0 := by funext j; rw [hgd]; simp [lexBefore]
      rw [this]; exact hlex0
    · exact ⟨hrep.defers, hrep.size, hrep.slots, hrep.mem, hrep.own, hrep.inj, hrep.live, ⟨hrep.keeps.os, hrep.keeps.tape, hrep.keeps.output, hrep.keeps.size, hrep.keeps.block⟩⟩

theorem region_dag {P : Program} {id : Nat} {l : List Oper} {draw : Bool} {N : Nat} {S : St} {ρ : Nat → Nat} {F : Fr} {a : Act} {w : World} {Q : Exit → Act → World → Prop} {es : List Eff}
    (hm : P.follows .mixedOrders = true) (hrep : Rep N S ρ F a w) (hw : Walk P F l.toArray S l es) (hck : check N S l es = true)
    (hQ : ∀ ρ' a' w', Rep N (S.after l es) ρ' F a' w' → Q .normal a' w') : (Code.region id l.toArray draw).wp P Q a w :=
  region_dag' hm hrep hw hck fun ρ' a' w' _ h => hQ ρ' a' w' h

end Go.Proofs.Ytnbdeajjfhlmnaa
