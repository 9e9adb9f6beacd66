/-
  Numbers of 32 bytes as values: 'bv n' is the array whose bytes are those of n, the lowest first.
-/
import Derived.Test.YtnbdeajjfhlmnaaOps
namespace Go.Proofs.Ytnbdeajjfhlmnaa
open Go.RowKit

def byteOf (n i : Nat) : Nat := n / 256 ^ i % 256
theorem byteOf_lt (n i : Nat) : byteOf n i < 256 := Nat.mod_lt _ (by decide)
def byteV (n i : Nat) : Value := .int .u8 (byteOf n i)
def bvc (n : Nat) : Array Value := ((List.range 32).map (byteV n)).toArray
def bv (n : Nat) : Value := .agg (bvc n)

@[simp] theorem size_bvc (n : Nat) : (bvc n).size = 32 := by simp [bvc]
theorem bv_def (n : Nat) : bv n = .agg (bvc n) := rfl
@[simp] theorem cells_bv (n : Nat) : (bv n).cells = bvc n := rfl
theorem get_bvc (n k : Nat) : (bvc n)[k]? = if k < 32 then some (byteV n k) else none := by
  unfold bvc
  by_cases h : k < 32
  · simp [h]
  · simp [h]
theorem get_bvc_lt (n k : Nat) (h : k < 32) : (bvc n)[k]? = some (byteV n k) := by rw [get_bvc, if_pos h]
theorem one_bvc (n : Nat) : (bvc n).all (·.oneCell') = true := by
  rw [Array.all_eq_true_iff_forall_mem]
  intro x hx
  simp only [bvc, List.mem_toArray, List.mem_map] at hx
  obtain ⟨i, _, rfl⟩ := hx
  rfl

/-- The number of bytes. -/
def ofB (f : Nat → Nat) : Nat → Nat
  | 0 => 0
  | k + 1 => ofB f k + f k * 256 ^ k

theorem ofB_lt (f : Nat → Nat) (k : Nat) (h : ∀ i, i < k → f i < 256) : ofB f k < 256 ^ k := by
  induction k with
  | zero => simp [ofB]
  | succ k ih =>
    have h1 := ih (fun i hi => h i (by omega))
    have h2 : f k * 256 ^ k ≤ 255 * 256 ^ k := Nat.mul_le_mul_right _ (by have := h k (by omega); omega)
    simp only [ofB, Nat.pow_succ]
    omega

theorem ofB_byte (f : Nat → Nat) (k : Nat) (h : ∀ i, i < k → f i < 256) (i : Nat) (hi : i < k) : byteOf (ofB f k) i = f i := by
  induction k with
  | zero => omega
  | succ k ih =>
    have hlt := ofB_lt f k (fun i hi => h i (by omega))
    have hpos : 0 < 256 ^ k := Nat.pow_pos (by decide)
    unfold byteOf ofB
    by_cases hik : i = k
    · subst hik
      rw [Nat.add_mul_div_right _ _ hpos, Nat.div_eq_of_lt hlt, Nat.zero_add]
      exact Nat.mod_eq_of_lt (h i hi)
    · have hik' : i < k := by omega
      have := ih (fun i hi => h i (by omega)) hik'
      unfold byteOf at this
      rw [show f k * 256 ^ k = (f k * 256 ^ (k - i - 1) * 256) * 256 ^ i by
        rw [Nat.mul_assoc, Nat.mul_assoc]; congr 1
        rw [← Nat.pow_succ', ← Nat.pow_add]; congr 1; omega,
        Nat.add_mul_div_right _ _ (Nat.pow_pos (by decide)), Nat.add_mul_mod_self_right]
      exact this

theorem ofB_congr {f g : Nat → Nat} (k : Nat) (h : ∀ i, i < k → f i = g i) : ofB f k = ofB g k := by
  induction k with
  | zero => rfl
  | succ k ih => simp only [ofB, ih (fun i hi => h i (by omega)), h k (by omega)]

theorem ofB_self (n k : Nat) : ofB (byteOf n) k = n % 256 ^ k := by
  induction k with
  | zero => simp [ofB, Nat.mod_one]
  | succ k ih =>
    simp only [ofB, ih, byteOf, Nat.pow_succ]
    rw [Nat.mod_mul, Nat.mul_comm (n / 256 ^ k % 256)]

theorem byte_ext {n m : Nat} (hn : n < 2 ^ 256) (hm : m < 2 ^ 256) (h : ∀ i, i < 32 → byteOf n i = byteOf m i) : n = m := by
  have e := ofB_congr (f := byteOf n) (g := byteOf m) 32 h
  rw [ofB_self, ofB_self] at e
  have h256 : (256 : Nat) ^ 32 = 2 ^ 256 := by decide
  rw [h256, Nat.mod_eq_of_lt hn, Nat.mod_eq_of_lt hm] at e
  exact e

/-- Any row of bytes is the row of its number. -/
theorem bvc_of (cs : Array Value) (f : Nat → Nat) (hsz : cs.size = 32) (hc : ∀ i, i < 32 → cs[i]? = some (.int .u8 (f i))) (hf : ∀ i, i < 32 → f i < 256) : cs = bvc (ofB f 32) := by
  apply Array.ext_getElem?
  intro i
  rw [get_bvc]
  by_cases h : i < 32
  · rw [if_pos h, hc i h, byteV, ofB_byte f 32 hf i h]
  · rw [if_neg h, Array.getElem?_eq_none (by omega)]

/-- One byte of a number put anew. -/
def setByte (n k b : Nat) : Nat := ofB (fun i => if i = k then b else byteOf n i) 32
theorem setByte_lt (n k b : Nat) (hb : b < 256) : setByte n k b < 2 ^ 256 := by
  have := ofB_lt (fun i => if i = k then b else byteOf n i) 32 (fun i _ => by split; exact hb; exact byteOf_lt _ _)
  simpa [setByte] using this
theorem byteOf_setByte (n k b i : Nat) (hb : b < 256) (hi : i < 32) : byteOf (setByte n k b) i = if i = k then b else byteOf n i :=
  ofB_byte _ 32 (fun i _ => by split; exact hb; exact byteOf_lt _ _) i hi
theorem bvc_set (n k b : Nat) (hk : k < 32) (hb : b < 256) : (bvc n).setIfInBounds k (.int .u8 b) = bvc (setByte n k b) := by
  refine bvc_of _ _ (by simp) (fun i hi => ?_) (fun i _ => by split; exact hb; exact byteOf_lt _ _)
  rw [Array.getElem?_setIfInBounds]
  by_cases h : k = i
  · subst h; simp [hk]
  · rw [if_neg h, get_bvc_lt n i hi]
    simp [byteV, Ne.symm h]

/-! ### '==' on two of them -/
section
variable {P : Program}

theorem run_part_cell {t : TypeId} {cs : Array Value} {k : Nat} {v : Value} (ht : tOne P t = true) (hv : cs[k]? = some v) (w : World) : (part t cs k).run P w = .ok v w := by
  simp [part, run_isAgg_false ht, hv]

theorem run_loop_all {f g : Nat → Nat} {len : Nat} (F : Nat → Option Bool × PUnit → Sem (ForInStep (Option Bool × PUnit)))
    (hF : ∀ i, i < len → ∀ r w, (F i r).run P w = .ok (if f i == g i then .yield (none, ()) else .done (some false, ())) w) :
    ∀ (l : List Nat), (∀ i ∈ l, i < len) → ∀ (w : World), (forIn (m := Sem) l ((none, ()) : Option Bool × PUnit) F).run P w =
      .ok (if l.all (fun i => f i == g i) then (none, ()) else (some false, ())) w := by
  intro l
  induction l with
  | nil => intro _ w; simp
  | cons i l ih =>
    intro hl w
    rw [List.forIn_cons, Sem.run_bind, hF i (hl i (by simp)), Result.andThen_ok]
    by_cases hfg : f i = g i
    · have := ih (fun j hj => hl j (by simp [hj])) w
      simp only [hfg, beq_self_eq_true, if_true, List.all_cons, Bool.true_and]
      exact this
    · have hne : (f i == g i) = false := by simpa using hfg
      simp only [hne, Bool.false_eq_true, if_false, List.all_cons, Bool.false_and]
      rfl

theorem run_equalIn_bytes (d : Nat) {t e : TypeId} {len : Nat} (xs ys : Array Value) (f g : Nat → Nat) (hu : P.underlying t = some (.array len e)) (he : P.underlying e = some (.int .u8)) (hn : tSize P e = some 1)
    (hx : ∀ i, i < len → xs[i]? = some (.int .u8 (f i))) (hy : ∀ i, i < len → ys[i]? = some (.int .u8 (g i))) (w : World) :
    (Op.equalIn (d + 2) t (.agg xs) (.agg ys)).run P w = .ok ((List.range len).all fun i => f i == g i) w := by
  have hone : tOne P e = true := by simp [tOne, he]
  simp only [Op.equalIn, Sem.run_bind, run_underlying hu, Result.andThen_ok, run_sizeOf' hn, Std.Legacy.Range.forIn_eq_forIn_range']
  rw [run_loop_all (P := P) (f := f) (g := g) (len := len) _ (fun i hi r w => ?_) _ (fun i hi => by
    have := List.mem_range'_1.1 hi; simp [Std.Legacy.Range.size] at this; omega) w]
  · simp only [Result.andThen_ok]
    have hl : List.range' 0 (Std.Legacy.Range.size { start := 0, stop := len, step := 1, step_pos := by decide }) 1 = List.range len := by
      simp [Std.Legacy.Range.size, List.range_eq_range']
    rw [show (List.range' ({ start := 0, stop := len, step := 1, step_pos := by decide } : Std.Legacy.Range).start (Std.Legacy.Range.size { start := 0, stop := len, step := 1, step_pos := by decide }) ({ start := 0, stop := len, step := 1, step_pos := by decide } : Std.Legacy.Range).step) = List.range len from hl]
    cases (List.range len).all fun i => f i == g i <;> rfl
  · have h1 := run_part_cell (P := P) hone (hx i hi) w
    have h2 := run_part_cell (P := P) hone (hy i hi) w
    simp only [Nat.mul_one, Sem.run_bind, h1, h2, Result.andThen_ok]
    by_cases hfg : f i = g i
    · simp [hfg, run_underlying he]
    · have hne : ((f i : Int) == (g i : Int)) = false := by simp; omega
      simp [hfg, run_underlying he, hne]

theorem bytes_eq_iff {n m : Nat} (hn : n < 2 ^ 256) (hm : m < 2 ^ 256) : ((List.range 32).all fun i => byteOf n i == byteOf m i) = decide (n = m) := by
  rw [Bool.eq_iff_iff]
  simp only [List.all_eq_true, List.mem_range, beq_iff_eq, decide_eq_true_eq]
  exact ⟨fun h => byte_ext hn hm h, fun h _ _ => by rw [h]⟩

/-- What the program must say of an array type of 32 bytes. -/
structure Is32 (P : Program) (t : TypeId) : Prop where
  ex : ∃ e, P.underlying t = some (.array 32 e) ∧ P.underlying e = some (.int .u8) ∧ tSize P e = some 1
  size : tSize P t = some 32
  noGuard : P.eqGuardType P.depth t = false

theorem run_eql_bv {t : TypeId} (h : Is32 P t) {n m : Nat} (hn : n < 2 ^ 256) (hm : m < 2 ^ 256) (w : World) : (binOp .eql t (bv n) (bv m)).run P w = .ok (.bool (decide (n = m))) w := by
  obtain ⟨e, h1, h2, h3⟩ := h.ex
  have := run_equalIn_bytes (P := P) 9998 (bvc n) (bvc m) (byteOf n) (byteOf m) h1 h2 h3 (fun i hi => get_bvc_lt n i hi) (fun i hi => get_bvc_lt m i hi) w
  rw [bytes_eq_iff hn hm] at this
  simp only [binOp, bv, Op.equal, Op.maxDepth, Sem.run_bind, this, Result.andThen_ok]
  rfl
theorem run_neq_bv {t : TypeId} (h : Is32 P t) {n m : Nat} (hn : n < 2 ^ 256) (hm : m < 2 ^ 256) (w : World) : (binOp .neq t (bv n) (bv m)).run P w = .ok (.bool (decide (n ≠ m))) w := by
  obtain ⟨e, h1, h2, h3⟩ := h.ex
  have := run_equalIn_bytes (P := P) 9998 (bvc n) (bvc m) (byteOf n) (byteOf m) h1 h2 h3 (fun i hi => get_bvc_lt n i hi) (fun i hi => get_bvc_lt m i hi) w
  rw [bytes_eq_iff hn hm] at this
  simp only [binOp, bv, Op.equal, Op.maxDepth, Sem.run_bind, this, Result.andThen_ok]
  simp

variable {F : Fr} {ops : Array Oper} {S : St} {o : Oper}

theorem ok_eql (hw : want ops S o = some true) {t t' : TypeId} {x y : Operand} (ho : o.op = .binOp .eql t x y t') {n m : Nat} (hx : S.av x = some (.v (bv n))) (hy : S.av y = some (.v (bv m)))
    (h32 : Is32 P t) (hn : n < 2 ^ 256) (hm : m < 2 ^ 256) {b : Bool} (hb : decide (n = m) = b) : OpOK P F ops o S { val := .v (.bool b) } :=
  ok_value hw fun ρ a w h1 _ _ => by
    have e1 := h1 x (by simp [ho, Op.operands]) _ hx
    have e2 := h1 y (by simp [ho, Op.operands]) _ hy
    have hg : (eqGuard .eql t x y (bv n) (bv m)).run P w = .ok () w := run_eqGuard_agg w .eql t x y _ _ h32.noGuard
    simp only [execOp, ho, e1, e2, AV.to_v, Sem.run_bind, hg, Result.andThen_ok, run_eql_bv h32 hn hm, hb]
    rfl
theorem ok_neq (hw : want ops S o = some true) {t t' : TypeId} {x y : Operand} (ho : o.op = .binOp .neq t x y t') {n m : Nat} (hx : S.av x = some (.v (bv n))) (hy : S.av y = some (.v (bv m)))
    (h32 : Is32 P t) (hn : n < 2 ^ 256) (hm : m < 2 ^ 256) {b : Bool} (hb : decide (n ≠ m) = b) : OpOK P F ops o S { val := .v (.bool b) } :=
  ok_value hw fun ρ a w h1 _ _ => by
    have e1 := h1 x (by simp [ho, Op.operands]) _ hx
    have e2 := h1 y (by simp [ho, Op.operands]) _ hy
    have hg : (eqGuard .neq t x y (bv n) (bv m)).run P w = .ok () w := run_eqGuard_agg w .neq t x y _ _ h32.noGuard
    simp only [execOp, ho, e1, e2, AV.to_v, Sem.run_bind, hg, Result.andThen_ok, run_neq_bv h32 hn hm, hb]
    rfl
end
attribute [irreducible] bv bvc
end Go.Proofs.Ytnbdeajjfhlmnaa
