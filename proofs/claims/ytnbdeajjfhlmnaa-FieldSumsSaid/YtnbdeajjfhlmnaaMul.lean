/-
  (limbs).mul of package field.
-/
import Derived.Test.YtnbdeajjfhlmnaaAddSub
namespace Go.Proofs.Ytnbdeajjfhlmnaa
open Go.RowKit

def rvc (r : Nat → Nat) : Array Value :=
  #[.int .u64 ((r 0 / 18446744073709551616 : Nat) : Int), .int .u64 ((r 0 % 18446744073709551616 : Nat) : Int), .int .u64 ((r 1 / 18446744073709551616 : Nat) : Int), .int .u64 ((r 1 % 18446744073709551616 : Nat) : Int),
    .int .u64 ((r 2 / 18446744073709551616 : Nat) : Int), .int .u64 ((r 2 % 18446744073709551616 : Nat) : Int), .int .u64 ((r 3 / 18446744073709551616 : Nat) : Int), .int .u64 ((r 3 % 18446744073709551616 : Nat) : Int),
    .int .u64 ((r 4 / 18446744073709551616 : Nat) : Int), .int .u64 ((r 4 % 18446744073709551616 : Nat) : Int)]
def rv (r : Nat → Nat) : Value := .agg (rvc r)
theorem rvc_hi (r : Nat → Nat) (k : Nat) (hk : k < 5) : (rvc r)[k * 2]? = some (.int .u64 ((r k / 18446744073709551616 : Nat) : Int)) := by
  have : k = 0 ∨ k = 1 ∨ k = 2 ∨ k = 3 ∨ k = 4 := by omega
  rcases this with rfl | rfl | rfl | rfl | rfl <;> rfl
theorem rvc_lo (r : Nat → Nat) (k : Nat) (hk : k < 5) : (rvc r)[k * 2 + 1]? = some (.int .u64 ((r k % 18446744073709551616 : Nat) : Int)) := by
  have : k = 0 ∨ k = 1 ∨ k = 2 ∨ k = 3 ∨ k = 4 := by omega
  rcases this with rfl | rfl | rfl | rfl | rfl <;> rfl
theorem zero55 : tZero Try.prog 55 = some (rv fun _ => 0) := by kernel_rfl

section
variable {F : Fr} {ops : Array Oper} {S : St} {o : Oper}
theorem o_alloc55 (i : Nat) (hw : want ops S o = some true) (ho : o.op = .alloc 55) : OpOK Try.prog F ops o S { val := .p i 0, new := some (i, ⟨rvc fun _ => 0, 55⟩) } := ok_alloc i hw ho zero55
theorem o_store55 (hw : want ops S o = some true) {x y : Operand} (ho : o.op = .store 55 x y) {i t : Nat} {r q : Nat → Nat} (hx : S.av x = some (.p i 0)) (hy : S.av y = some (.v (rv r))) (hb : S.blk i = some ⟨rvc q, t⟩) :
    OpOK Try.prog F ops o S { val := .v undef, wr := some (i, ⟨rvc r, t⟩), rd := [i] } := ok_store_whole hw ho hx hy hb sz55 rfl (by simp [rvc, Value.oneCell']) rfl
theorem o_at55 (hw : want ops S o = some true) {x ix : Operand} (ho : o.op = .indexAddr 55 x ix) {i : Nat} {k : IntKind} {j : Nat} (hx : S.av x = some (.p i 0)) (hi : S.av ix = some (.v (.int k j))) (hj : j < 5) :
    OpOK Try.prog F ops o S { val := .p i (j * 2) } := by
  have := ok_index_arr (P := Try.prog) (F := F) (e := 53) hw ho hx hi (by kernel_rfl) sz53 hj
  simpa using this
theorem o_lo39r (hw : want ops S o = some true) {x : Operand} (ho : o.op = .load 39 x) {i k t : Nat} {r : Nat → Nat} (hx : S.av x = some (.p i (k * 2 + 1))) (hb : S.blk i = some ⟨rvc r, t⟩) (hk : k < 5) :
    OpOK Try.prog F ops o S { val := .v (.int .u64 ((r k % 18446744073709551616 : Nat) : Int)), rd := [i] } := ok_load_cell hw ho hx hb one39 (rvc_lo r k hk)
theorem o_load53r (hw : want ops S o = some true) {x : Operand} (ho : o.op = .load 53 x) {i k t : Nat} {r : Nat → Nat} (hx : S.av x = some (.p i (k * 2))) (hb : S.blk i = some ⟨rvc r, t⟩) (hk : k < 5) :
    OpOK Try.prog F ops o S { val := .v (wv (r k)), rd := [i] } :=
  ok_load_part hw ho hx hb agg53 sz53 (size_wvc _) (fun j hj => by
    have : j = 0 ∨ j = 1 := by omega
    rcases this with rfl | rfl
    · exact rvc_hi r k hk
    · exact rvc_lo r k hk)
end

/-- z after k rounds -/
def zTo (r : Nat → Nat) : Nat → L5
  | 0 => ⟨0, 0, 0, 0, 0⟩
  | 1 => ⟨r 0 % 2251799813685248, r 0 / 2251799813685248 % 18446744073709551616, 0, 0, 0⟩
  | 2 => ⟨r 0 % 2251799813685248, r 0 / 2251799813685248 % 18446744073709551616 + r 1 % 2251799813685248, r 1 / 2251799813685248 % 18446744073709551616, 0, 0⟩
  | 3 => ⟨r 0 % 2251799813685248, r 0 / 2251799813685248 % 18446744073709551616 + r 1 % 2251799813685248, r 1 / 2251799813685248 % 18446744073709551616 + r 2 % 2251799813685248, r 2 / 2251799813685248 % 18446744073709551616, 0⟩
  | 4 => ⟨r 0 % 2251799813685248, r 0 / 2251799813685248 % 18446744073709551616 + r 1 % 2251799813685248, r 1 / 2251799813685248 % 18446744073709551616 + r 2 % 2251799813685248,
          r 2 / 2251799813685248 % 18446744073709551616 + r 3 % 2251799813685248, r 3 / 2251799813685248 % 18446744073709551616⟩
  | _ => ⟨r 0 % 2251799813685248 + 19 * (r 4 / 2251799813685248 % 18446744073709551616), r 0 / 2251799813685248 % 18446744073709551616 + r 1 % 2251799813685248, r 1 / 2251799813685248 % 18446744073709551616 + r 2 % 2251799813685248,
          r 2 / 2251799813685248 % 18446744073709551616 + r 3 % 2251799813685248, r 3 / 2251799813685248 % 18446744073709551616 + r 4 % 2251799813685248⟩

/-- small sums of products -/
def SmallR (r : Nat → Nat) : Prop := (∀ k, k < 5 → r k < 2 ^ 112) ∧ r 4 < 2 ^ 107
theorem zTo_get {r : Nat → Nat} (h : SmallR r) (k : Nat) (hk : k < 5) : (zTo r k).get k < 2 ^ 62 := by
  have h0 := h.1 0 (by decide); have h1 := h.1 1 (by decide); have h2 := h.1 2 (by decide); have h3 := h.1 3 (by decide); have h4 := h.2
  have : k = 0 ∨ k = 1 ∨ k = 2 ∨ k = 3 ∨ k = 4 := by omega
  rcases this with rfl | rfl | rfl | rfl | rfl <;> simp only [zTo, L5.get] <;> omega
theorem zTo_step {r : Nat → Nat} (k : Nat) (hk : k < 4) : ((zTo r k).set k ((zTo r k).get k + r k % 2251799813685248)).set (k + 1) (r k / 2251799813685248 % 18446744073709551616) = zTo r (k + 1) := by
  have : k = 0 ∨ k = 1 ∨ k = 2 ∨ k = 3 := by omega
  rcases this with rfl | rfl | rfl | rfl <;> simp [zTo, L5.get, L5.set]
theorem zTo_last (r : Nat → Nat) : ((zTo r 4).set 4 ((zTo r 4).get 4 + r 4 % 2251799813685248)).set 0 (((zTo r 4).set 4 ((zTo r 4).get 4 + r 4 % 2251799813685248)).get 0 + 19 * (r 4 / 2251799813685248 % 18446744073709551616)) = zTo r 5 := by
  simp [zTo, L5.get, L5.set]
theorem zTo_w5 {r : Nat → Nat} (h : SmallR r) : W5 (zTo r 5) := by
  have h0 := h.1 0 (by decide); have h1 := h.1 1 (by decide); have h2 := h.1 2 (by decide); have h3 := h.1 3 (by decide); have h4 := h.2
  refine ⟨?_, ?_, ?_, ?_, ?_⟩ <;> simp only [zTo] <;> omega

/-- the five rows of products -/
def mulR (x y : L5) : Nat → Nat
  | 0 => rowN (x.get 0) (y.get 0) (19 * x.get 1) (y.get 4) (19 * x.get 2) (y.get 3) (19 * x.get 3) (y.get 2) (19 * x.get 4) (y.get 1)
  | 1 => rowN (x.get 0) (y.get 1) (x.get 1) (y.get 0) (19 * x.get 2) (y.get 4) (19 * x.get 3) (y.get 3) (19 * x.get 4) (y.get 2)
  | 2 => rowN (x.get 0) (y.get 2) (x.get 1) (y.get 1) (x.get 2) (y.get 0) (19 * x.get 3) (y.get 4) (19 * x.get 4) (y.get 3)
  | 3 => rowN (x.get 0) (y.get 3) (x.get 1) (y.get 2) (x.get 2) (y.get 1) (x.get 3) (y.get 0) (19 * x.get 4) (y.get 4)
  | _ => rowN (x.get 0) (y.get 4) (x.get 1) (y.get 3) (x.get 2) (y.get 2) (x.get 3) (y.get 1) (x.get 4) (y.get 0)
theorem p110 {a b : Nat} (ha : a ≤ 19 * 4503599627370495) (hb : b ≤ 4503599627370495) : a * b ≤ 385365782469381566918211934355475 := Nat.mul_le_mul ha hb
theorem Loose.get {x : L5} (h : Loose x) (k : Nat) : x.get k ≤ 4503599627370495 := by
  obtain ⟨h0, h1, h2, h3, h4⟩ := h
  match k with
  | 0 => simp only [L5.get]; omega
  | 1 => simp only [L5.get]; omega
  | 2 => simp only [L5.get]; omega
  | 3 => simp only [L5.get]; omega
  | n + 4 => simp only [L5.get]; omega
theorem rowN_small {a0 b0 a1 b1 a2 b2 a3 b3 a4 b4 : Nat} (h0 : a0 * b0 ≤ 385365782469381566918211934355475) (h1 : a1 * b1 ≤ 385365782469381566918211934355475) (h2 : a2 * b2 ≤ 385365782469381566918211934355475)
    (h3 : a3 * b3 ≤ 385365782469381566918211934355475) (h4 : a4 * b4 ≤ 385365782469381566918211934355475) : rowN a0 b0 a1 b1 a2 b2 a3 b3 a4 b4 = a0 * b0 + a1 * b1 + a2 * b2 + a3 * b3 + a4 * b4 ∧ rowN a0 b0 a1 b1 a2 b2 a3 b3 a4 b4 < 2 ^ 112 := by
  unfold rowN
  omega
theorem p104 {a b : Nat} (ha : a ≤ 4503599627370495) (hb : b ≤ 4503599627370495) : a * b ≤ 20282409603651661416747996545025 := Nat.mul_le_mul ha hb
theorem mulR_small4 {x y : L5} (hx : Loose x) (hy : Loose y) : mulR x y 4 < 2 ^ 107 := by
  have a := hx.get
  have c := hy.get
  have h0 := p104 (a 0) (c 4); have h1 := p104 (a 1) (c 3); have h2 := p104 (a 2) (c 2); have h3 := p104 (a 3) (c 1); have h4 := p104 (a 4) (c 0)
  simp only [mulR, rowN]
  omega
theorem mulR_small {x y : L5} (hx : Loose x) (hy : Loose y) : SmallR (mulR x y) := by
  refine ⟨?_, mulR_small4 hx hy⟩
  have a : ∀ k, x.get k ≤ 19 * 4503599627370495 := fun k => Nat.le_trans (hx.get k) (by decide)
  have b : ∀ k, 19 * x.get k ≤ 19 * 4503599627370495 := fun k => Nat.mul_le_mul_left 19 (hx.get k)
  have c := hy.get
  intro k hk
  have : k = 0 ∨ k = 1 ∨ k = 2 ∨ k = 3 ∨ k = 4 := by omega
  rcases this with rfl | rfl | rfl | rfl | rfl
  · exact (rowN_small (p110 (a 0) (c 0)) (p110 (b 1) (c 4)) (p110 (b 2) (c 3)) (p110 (b 3) (c 2)) (p110 (b 4) (c 1))).2
  · exact (rowN_small (p110 (a 0) (c 1)) (p110 (a 1) (c 0)) (p110 (b 2) (c 4)) (p110 (b 3) (c 3)) (p110 (b 4) (c 2))).2
  · exact (rowN_small (p110 (a 0) (c 2)) (p110 (a 1) (c 1)) (p110 (a 2) (c 0)) (p110 (b 3) (c 4)) (p110 (b 4) (c 3))).2
  · exact (rowN_small (p110 (a 0) (c 3)) (p110 (a 1) (c 2)) (p110 (a 2) (c 1)) (p110 (a 3) (c 0)) (p110 (b 4) (c 4))).2
  · exact (rowN_small (p110 (a 0) (c 4)) (p110 (a 1) (c 3)) (p110 (a 2) (c 2)) (p110 (a 3) (c 1)) (p110 (a 4) (c 0))).2
/-- 'mul' -/
def mulL (x y : L5) : L5 := carryL (zTo (mulR x y) 5)

def mulS (r : Nat → Nat) (k : Nat) : St := ⟨[(4, .p 4 0), (9, .p 9 0), (10, .p 10 0), (120, .v (.int .i64 k))], [(4, ⟨lvc ⟨0, 0, 0, 0, 0⟩, 41⟩), (9, ⟨rvc r, 55⟩), (10, ⟨lvc (zTo r k), 41⟩)]⟩
theorem lo_mask (n : Nat) : bits .and .u64 ((n % 18446744073709551616 : Nat) : Int) 2251799813685247 = ((n % 2251799813685248 : Nat) : Int) := by
  rw [u64_and51 _ (Nat.mod_lt _ (by decide))]; congr 1; omega
attribute [local irreducible] wv wvc rv rvc rowN

set_option maxRecDepth 20000 in
set_option maxHeartbeats 1000000 in
theorem mul_any (x y : L5) (hx : Loose x) (hy : Loose y) (w : World) : Calls Try.prog 44 #[lv x, lv y] w fun e w' => e = .returned (lv (mulL x y)) ∧ Below w.heap.size w w' := by
  have gx := hx.get
  have gy := hy.get
  have lx : ∀ k, x.get k < 18446744073709551616 := fun k => Nat.lt_of_le_of_lt (gx k) (by decide)
  have ly : ∀ k, y.get k < 18446744073709551616 := fun k => Nat.lt_of_le_of_lt (gy k) (by decide)
  have l19 : ∀ k, 19 * x.get k < 18446744073709551616 := fun k => Nat.lt_of_le_of_lt (Nat.mul_le_mul_left 19 (gx k)) (by decide)
  have hsm := mulR_small hx hy
  go_enter Try.func44, Try.ntmps44
  have h := Rep.start (N := 154) [lv x, lv y] [undef, undef, undef, undef, undef, undef, undef, undef, undef, undef, undef, undef, undef, undef, undef, undef, undef, undef, undef, undef, undef, undef, undef, undef, undef, undef, undef, undef, undef, undef, undef, undef, undef, undef, undef, undef, undef, undef, undef, undef, undef, undef, undef, undef, undef, undef, undef, undef, undef, undef, undef, undef, undef, undef, undef, undef, undef, undef, undef, undef, undef, undef, undef, undef, undef, undef, undef, undef, undef, undef, undef, undef, undef, undef, undef, undef, undef, undef, undef, undef, undef, undef, undef, undef, undef, undef, undef, undef, undef, undef, undef, undef, undef, undef, undef, undef, undef, undef, undef, undef, undef, undef, undef, undef, undef, undef, undef, undef, undef, undef, undef, undef, undef, undef, undef, undef, undef, undef, undef, undef, undef, undef, undef, undef, undef, undef, undef, undef, undef, undef, undef, undef, undef, undef, undef, undef, undef, undef, undef, undef, undef, undef, undef, undef, undef, undef, undef, undef, undef, undef, undef, undef] w rfl
  apply seq_dag hmix h
  case hw =>
    apply Walk.cons
    · exact o_box41 2 rfl rfl rfl
    apply Walk.cons
    · exact o_box41 3 rfl rfl rfl
    apply Walk.cons
    · exact o_alloc41 4 rfl rfl
    exact Walk.nil _
  case hck => kernel_rfl
  case hQ =>
    intro ρ A w1 h
    apply seq_dag hmix h
    case hw =>
      apply Walk.cons
      · exact o_at41 rfl rfl rfl rfl (by decide)
      apply Walk.cons
      · exact o_load39 rfl rfl rfl rfl (by decide)
      apply Walk.cons
      · exact o_bin rfl rfl rfl rfl (r_mul64 (a := 19) (b := x.get 1) (l19 1))
      apply Walk.cons
      · exact o_at41 rfl rfl rfl rfl (by decide)
      apply Walk.cons
      · exact o_load39 rfl rfl rfl rfl (by decide)
      apply Walk.cons
      · exact o_bin rfl rfl rfl rfl (r_mul64 (a := 19) (b := x.get 2) (l19 2))
      apply Walk.cons
      · exact o_at41 rfl rfl rfl rfl (by decide)
      apply Walk.cons
      · exact o_load39 rfl rfl rfl rfl (by decide)
      apply Walk.cons
      · exact o_bin rfl rfl rfl rfl (r_mul64 (a := 19) (b := x.get 3) (l19 3))
      apply Walk.cons
      · exact o_at41 rfl rfl rfl rfl (by decide)
      apply Walk.cons
      · exact o_load39 rfl rfl rfl rfl (by decide)
      apply Walk.cons
      · exact o_bin rfl rfl rfl rfl (r_mul64 (a := 19) (b := x.get 4) (l19 4))
      apply Walk.cons
      · exact ok_assign rfl rfl rfl
      apply Walk.cons
      · exact ok_assign rfl rfl rfl
      apply Walk.cons
      · exact ok_assign rfl rfl rfl
      apply Walk.cons
      · exact ok_assign rfl rfl rfl
      exact Walk.nil _
    case hck => kernel_rfl
    case hQ =>
      intro ρ A w1 h
      apply seq_dag hmix h
      case hw =>
        apply Walk.cons
        · exact o_at41 rfl rfl rfl rfl (by decide)
        apply Walk.cons
        · exact o_load39 rfl rfl rfl rfl (by decide)
        apply Walk.cons
        · exact o_at41 rfl rfl rfl rfl (by decide)
        apply Walk.cons
        · exact o_load39 rfl rfl rfl rfl (by decide)
        apply Walk.cons
        · exact ok_move rfl rfl rfl
        apply Walk.cons
        · exact o_at41 rfl rfl rfl rfl (by decide)
        apply Walk.cons
        · exact o_load39 rfl rfl rfl rfl (by decide)
        apply Walk.cons
        · exact ok_move rfl rfl rfl
        apply Walk.cons
        · exact o_at41 rfl rfl rfl rfl (by decide)
        apply Walk.cons
        · exact o_load39 rfl rfl rfl rfl (by decide)
        apply Walk.cons
        · exact ok_move rfl rfl rfl
        apply Walk.cons
        · exact o_at41 rfl rfl rfl rfl (by decide)
        apply Walk.cons
        · exact o_load39 rfl rfl rfl rfl (by decide)
        apply Walk.cons
        · exact ok_move rfl rfl rfl
        apply Walk.cons
        · exact o_at41 rfl rfl rfl rfl (by decide)
        apply Walk.cons
        · exact o_load39 rfl rfl rfl rfl (by decide)
        apply Walk.cons
        · exact ok_call_val rfl rfl fn54 [.v _, .v _, .v _, .v _, .v _, .v _, .v _, .v _, .v _, .v _] rfl (rd := []) (fun ρ w _ _ => row_any _ _ _ _ _ _ _ _ _ _ (lx 0) (ly 0) (l19 1) (ly 4) (l19 2) (ly 3) (l19 3) (ly 2) (l19 4) (ly 1) w)
        apply Walk.cons
        · exact o_at41 rfl rfl rfl rfl (by decide)
        apply Walk.cons
        · exact o_load39 rfl rfl rfl rfl (by decide)
        apply Walk.cons
        · exact o_at41 rfl rfl rfl rfl (by decide)
        apply Walk.cons
        · exact o_load39 rfl rfl rfl rfl (by decide)
        apply Walk.cons
        · exact o_at41 rfl rfl rfl rfl (by decide)
        apply Walk.cons
        · exact o_load39 rfl rfl rfl rfl (by decide)
        apply Walk.cons
        · exact o_at41 rfl rfl rfl rfl (by decide)
        apply Walk.cons
        · exact o_load39 rfl rfl rfl rfl (by decide)
        apply Walk.cons
        · exact ok_move rfl rfl rfl
        apply Walk.cons
        · exact o_at41 rfl rfl rfl rfl (by decide)
        apply Walk.cons
        · exact o_load39 rfl rfl rfl rfl (by decide)
        apply Walk.cons
        · exact ok_move rfl rfl rfl
        apply Walk.cons
        · exact o_at41 rfl rfl rfl rfl (by decide)
        apply Walk.cons
        · exact o_load39 rfl rfl rfl rfl (by decide)
        apply Walk.cons
        · exact ok_move rfl rfl rfl
        apply Walk.cons
        · exact o_at41 rfl rfl rfl rfl (by decide)
        apply Walk.cons
        · exact o_load39 rfl rfl rfl rfl (by decide)
        apply Walk.cons
        · exact ok_call_val rfl rfl fn54 [.v _, .v _, .v _, .v _, .v _, .v _, .v _, .v _, .v _, .v _] rfl (rd := []) (fun ρ w _ _ => row_any _ _ _ _ _ _ _ _ _ _ (lx 0) (ly 1) (lx 1) (ly 0) (l19 2) (ly 4) (l19 3) (ly 3) (l19 4) (ly 2) w)
        apply Walk.cons
        · exact o_at41 rfl rfl rfl rfl (by decide)
        apply Walk.cons
        · exact o_load39 rfl rfl rfl rfl (by decide)
        apply Walk.cons
        · exact o_at41 rfl rfl rfl rfl (by decide)
        apply Walk.cons
        · exact o_load39 rfl rfl rfl rfl (by decide)
        apply Walk.cons
        · exact o_at41 rfl rfl rfl rfl (by decide)
        apply Walk.cons
        · exact o_load39 rfl rfl rfl rfl (by decide)
        apply Walk.cons
        · exact o_at41 rfl rfl rfl rfl (by decide)
        apply Walk.cons
        · exact o_load39 rfl rfl rfl rfl (by decide)
        apply Walk.cons
        · exact o_at41 rfl rfl rfl rfl (by decide)
        apply Walk.cons
        · exact o_load39 rfl rfl rfl rfl (by decide)
        apply Walk.cons
        · exact o_at41 rfl rfl rfl rfl (by decide)
        apply Walk.cons
        · exact o_load39 rfl rfl rfl rfl (by decide)
        apply Walk.cons
        · exact ok_move rfl rfl rfl
        apply Walk.cons
        · exact o_at41 rfl rfl rfl rfl (by decide)
        apply Walk.cons
        · exact o_load39 rfl rfl rfl rfl (by decide)
        apply Walk.cons
        · exact ok_move rfl rfl rfl
        apply Walk.cons
        · exact o_at41 rfl rfl rfl rfl (by decide)
        apply Walk.cons
        · exact o_load39 rfl rfl rfl rfl (by decide)
        apply Walk.cons
        · exact ok_call_val rfl rfl fn54 [.v _, .v _, .v _, .v _, .v _, .v _, .v _, .v _, .v _, .v _] rfl (rd := []) (fun ρ w _ _ => row_any _ _ _ _ _ _ _ _ _ _ (lx 0) (ly 2) (lx 1) (ly 1) (lx 2) (ly 0) (l19 3) (ly 4) (l19 4) (ly 3) w)
        apply Walk.cons
        · exact o_at41 rfl rfl rfl rfl (by decide)
        apply Walk.cons
        · exact o_load39 rfl rfl rfl rfl (by decide)
        apply Walk.cons
        · exact o_at41 rfl rfl rfl rfl (by decide)
        apply Walk.cons
        · exact o_load39 rfl rfl rfl rfl (by decide)
        apply Walk.cons
        · exact o_at41 rfl rfl rfl rfl (by decide)
        apply Walk.cons
        · exact o_load39 rfl rfl rfl rfl (by decide)
        apply Walk.cons
        · exact o_at41 rfl rfl rfl rfl (by decide)
        apply Walk.cons
        · exact o_load39 rfl rfl rfl rfl (by decide)
        apply Walk.cons
        · exact o_at41 rfl rfl rfl rfl (by decide)
        apply Walk.cons
        · exact o_load39 rfl rfl rfl rfl (by decide)
        apply Walk.cons
        · exact o_at41 rfl rfl rfl rfl (by decide)
        apply Walk.cons
        · exact o_load39 rfl rfl rfl rfl (by decide)
        apply Walk.cons
        · exact o_at41 rfl rfl rfl rfl (by decide)
        apply Walk.cons
        · exact o_load39 rfl rfl rfl rfl (by decide)
        apply Walk.cons
        · exact o_at41 rfl rfl rfl rfl (by decide)
        apply Walk.cons
        · exact o_load39 rfl rfl rfl rfl (by decide)
        apply Walk.cons
        · exact ok_move rfl rfl rfl
        apply Walk.cons
        · exact o_at41 rfl rfl rfl rfl (by decide)
        apply Walk.cons
        · exact o_load39 rfl rfl rfl rfl (by decide)
        apply Walk.cons
        · exact ok_call_val rfl rfl fn54 [.v _, .v _, .v _, .v _, .v _, .v _, .v _, .v _, .v _, .v _] rfl (rd := []) (fun ρ w _ _ => row_any _ _ _ _ _ _ _ _ _ _ (lx 0) (ly 3) (lx 1) (ly 2) (lx 2) (ly 1) (lx 3) (ly 0) (l19 4) (ly 4) w)
        apply Walk.cons
        · exact o_at41 rfl rfl rfl rfl (by decide)
        apply Walk.cons
        · exact o_load39 rfl rfl rfl rfl (by decide)
        apply Walk.cons
        · exact o_at41 rfl rfl rfl rfl (by decide)
        apply Walk.cons
        · exact o_load39 rfl rfl rfl rfl (by decide)
        apply Walk.cons
        · exact o_at41 rfl rfl rfl rfl (by decide)
        apply Walk.cons
        · exact o_load39 rfl rfl rfl rfl (by decide)
        apply Walk.cons
        · exact o_at41 rfl rfl rfl rfl (by decide)
        apply Walk.cons
        · exact o_load39 rfl rfl rfl rfl (by decide)
        apply Walk.cons
        · exact o_at41 rfl rfl rfl rfl (by decide)
        apply Walk.cons
        · exact o_load39 rfl rfl rfl rfl (by decide)
        apply Walk.cons
        · exact o_at41 rfl rfl rfl rfl (by decide)
        apply Walk.cons
        · exact o_load39 rfl rfl rfl rfl (by decide)
        apply Walk.cons
        · exact o_at41 rfl rfl rfl rfl (by decide)
        apply Walk.cons
        · exact o_load39 rfl rfl rfl rfl (by decide)
        apply Walk.cons
        · exact o_at41 rfl rfl rfl rfl (by decide)
        apply Walk.cons
        · exact o_load39 rfl rfl rfl rfl (by decide)
        apply Walk.cons
        · exact o_at41 rfl rfl rfl rfl (by decide)
        apply Walk.cons
        · exact o_load39 rfl rfl rfl rfl (by decide)
        apply Walk.cons
        · exact o_at41 rfl rfl rfl rfl (by decide)
        apply Walk.cons
        · exact o_load39 rfl rfl rfl rfl (by decide)
        apply Walk.cons
        · exact ok_call_val rfl rfl fn54 [.v _, .v _, .v _, .v _, .v _, .v _, .v _, .v _, .v _, .v _] rfl (rd := []) (fun ρ w _ _ => row_any _ _ _ _ _ _ _ _ _ _ (lx 0) (ly 4) (lx 1) (ly 3) (lx 2) (ly 2) (lx 3) (ly 1) (lx 4) (ly 0) w)
        apply Walk.cons
        · exact o_built rfl rfl (by kernel_rfl) (v := rv (mulR x y)) (fun w => by kernel_rfl)
        apply Walk.cons
        · exact o_alloc55 9 rfl rfl
        apply Walk.cons
        · exact o_store55 rfl rfl rfl rfl rfl
        exact Walk.nil _
      case hck => kernel_rfl
      case hQ =>
        intro ρ A w1 h
        apply seq_dag hmix h
        case hw =>
          apply Walk.cons
          · exact o_alloc41 10 rfl rfl
          exact Walk.nil _
        case hck => kernel_rfl
        case hQ =>
          intro ρ A w1 h
          refine wp_seq ?_
          apply seq_dag hmix h
          case hw =>
            apply Walk.cons
            · exact ok_move rfl rfl rfl
            exact Walk.nil _
          case hck => kernel_rfl
          case hQ =>
            intro ρ A w1 h
            have h := h.plain (mulS (mulR x y) 0) ⟨rfl, rfl, rfl, rfl, trivial⟩ ⟨rfl, rfl, rfl, trivial⟩ rfl
            generalize hr : mulR x y = r at h hsm
            refine wp_block ?_
            refine rep_loop 5 (mulS r) h ?_
            intro k ρ A w2 hk h
            by_cases hlt : k < 5
            · have hz := zTo_get hsm k hlt
              have hrk := hsm.1 k hlt
              have hml : r k % 2251799813685248 < 2251799813685248 := Nat.mod_lt _ (by decide)
              apply seq_dag hmix h
              case hw =>
                apply Walk.cons
                · exact o_bin rfl rfl rfl rfl (r_lss (decide_eq_true hlt))
                exact Walk.nil _
              case hck => kernel_rfl
              case hQ =>
                intro ρ A w1 h
                refine go_on h rfl ?_
                refine wp_seq (wp_block ?_)
                apply seq_dag hmix h
                case hw =>
                  apply Walk.cons
                  · exact ok_move rfl rfl rfl
                  apply Walk.cons
                  · exact ok_assign rfl rfl rfl
                  exact Walk.nil _
                case hck => kernel_rfl
                case hQ =>
                  intro ρ A w1 h
                  apply seq_dag hmix h
                  case hw =>
                    apply Walk.cons
                    · exact ok_move rfl rfl rfl
                    apply Walk.cons
                    · exact o_at41 rfl rfl rfl rfl (by omega)
                    apply Walk.cons
                    · exact o_load39 rfl rfl rfl rfl (by omega)
                    apply Walk.cons
                    · exact ok_move rfl rfl rfl
                    apply Walk.cons
                    · exact o_at55 rfl rfl rfl rfl hlt
                    apply Walk.cons
                    · exact o_lo rfl rfl rfl
                    apply Walk.cons
                    · exact o_lo39r rfl rfl rfl rfl hlt
                    apply Walk.cons
                    · exact o_bin rfl rfl rfl rfl (r_and (lo_mask (r k)))
                    apply Walk.cons
                    · exact o_bin rfl rfl rfl rfl (r_add64 (a := (zTo r k).get k) (b := r k % 2251799813685248) (by omega))
                    apply Walk.cons
                    · exact o_at41 rfl rfl rfl rfl (by omega)
                    apply Walk.cons
                    · exact o_store39 rfl rfl rfl rfl rfl (by omega)
                    exact Walk.nil _
                  case hck => kernel_rfl
                  case hQ =>
                    intro ρ A w1 h
                    by_cases h4 : k < 4
                    · refine wp_seq ?_
                      apply region_dag hmix h
                      case hw =>
                        apply Walk.cons
                        · exact ok_move rfl rfl rfl
                        apply Walk.cons
                        · exact o_bin rfl rfl rfl rfl (r_lss (decide_eq_true h4))
                        exact Walk.nil _
                      case hck => kernel_rfl
                      case hQ =>
                        intro ρ A w1 h
                        refine Exit.then_normal ?_
                        refine if_true' h rfl ?_
                        apply region_dag hmix h
                        case hw =>
                          apply Walk.cons
                          · exact ok_move rfl rfl rfl
                          apply Walk.cons
                          · exact o_bin rfl rfl rfl rfl (r_addi (a := k) (b := 1) (by omega))
                          apply Walk.cons
                          · exact ok_move rfl rfl rfl
                          apply Walk.cons
                          · exact o_at55 rfl rfl rfl rfl hlt
                          apply Walk.cons
                          · exact o_load53r rfl rfl rfl rfl hlt
                          apply Walk.cons
                          · exact ok_call_val rfl rfl fn55 [.v _] rfl (rd := []) (fun ρ w _ _ => up_any _ (Nat.lt_trans hrk (by decide)) w)
                          apply Walk.cons
                          · exact o_at41 rfl rfl rfl rfl (by omega)
                          apply Walk.cons
                          · exact o_store39 rfl rfl rfl rfl rfl (by omega)
                          exact Walk.nil _
                        case hck => kernel_rfl
                        case hQ =>
                          intro ρ A w1 h
                          refine Exit.block_normal (Exit.then_normal ?_)
                          apply region_dag hmix h
                          case hw =>
                            apply Walk.cons
                            · exact o_bin rfl rfl rfl rfl (r_addi (a := k) (b := 1) (by omega))
                            apply Walk.cons
                            · exact ok_move rfl rfl rfl
                            exact Walk.nil _
                          case hck => kernel_rfl
                          case hQ =>
                            intro ρ A w1 h
                            refine ⟨_, hlt, h.plain (mulS r (k + 1)) ⟨rfl, rfl, rfl, rfl, trivial⟩ ⟨rfl, rfl, ?_, trivial⟩ rfl⟩
                            rw [← zTo_step k h4]
                            rfl
                    · obtain rfl : k = 4 := by omega
                      refine wp_seq ?_
                      apply region_dag hmix h
                      case hw =>
                        apply Walk.cons
                        · exact ok_move rfl rfl rfl
                        apply Walk.cons
                        · exact o_bin rfl rfl rfl rfl (r_lss (decide_eq_false h4))
                        exact Walk.nil _
                      case hck => kernel_rfl
                      case hQ =>
                        intro ρ A w1 h
                        refine Exit.then_normal ?_
                        refine if_false' h rfl ?_
                        apply region_dag hmix h
                        case hw =>
                          apply Walk.cons
                          · exact o_at41 rfl rfl rfl rfl (by decide)
                          apply Walk.cons
                          · exact o_load39 rfl rfl rfl rfl (by decide)
                          apply Walk.cons
                          · exact ok_move rfl rfl rfl
                          apply Walk.cons
                          · exact o_at55 rfl rfl rfl rfl hlt
                          apply Walk.cons
                          · exact o_load53r rfl rfl rfl rfl hlt
                          apply Walk.cons
                          · exact ok_call_val rfl rfl fn55 [.v _] rfl (rd := []) (fun ρ w _ _ => up_any _ (Nat.lt_trans hrk (by decide)) w)
                          apply Walk.cons
                          · exact o_bin rfl rfl rfl rfl (r_mul64 (a := 19) (b := r 4 / 2251799813685248 % 18446744073709551616) (by have := hsm.2; omega))
                          apply Walk.cons
                          · exact o_bin rfl rfl rfl rfl (r_add64 (a := ((zTo r 4).set 4 ((zTo r 4).get 4 + r 4 % 2251799813685248)).get 0) (b := 19 * (r 4 / 2251799813685248 % 18446744073709551616)) (by simp only [zTo, L5.get, L5.set]; have := hsm.1 0 (by decide); have := hsm.2; simp; omega))
                          apply Walk.cons
                          · exact o_at41 rfl rfl rfl rfl (by decide)
                          apply Walk.cons
                          · exact o_store39 rfl rfl rfl rfl rfl (by decide)
                          exact Walk.nil _
                        case hck => kernel_rfl
                        case hQ =>
                          intro ρ A w1 h
                          refine Exit.block_normal (Exit.then_normal ?_)
                          apply region_dag hmix h
                          case hw =>
                            apply Walk.cons
                            · exact o_bin rfl rfl rfl rfl (r_addi (a := 4) (b := 1) (by decide))
                            apply Walk.cons
                            · exact ok_move rfl rfl rfl
                            exact Walk.nil _
                          case hck => kernel_rfl
                          case hQ =>
                            intro ρ A w1 h
                            refine ⟨_, hlt, h.plain (mulS r 5) ⟨rfl, rfl, rfl, rfl, trivial⟩ ⟨rfl, rfl, ?_, trivial⟩ rfl⟩
                            rw [← zTo_last r]
                            rfl
            · obtain rfl : k = 5 := by omega
              apply seq_dag hmix h
              case hw =>
                apply Walk.cons
                · exact o_bin rfl rfl rfl rfl (r_lss (decide_eq_false hlt))
                exact Walk.nil _
              case hck => kernel_rfl
              case hQ =>
                intro ρ A w1 h
                refine leave h rfl ?_
                refine Exit.then_normal ?_
                apply seq_dag hmix h
                case hw =>
                  apply Walk.cons
                  · exact o_load41 rfl rfl rfl rfl
                  apply Walk.cons
                  · exact ok_call_val rfl rfl fn51 [.v _] rfl (rd := []) (fun ρ w _ _ => carry_any _ w (zTo_w5 hsm))
                  apply Walk.cons
                  · exact o_store41 rfl rfl rfl rfl rfl
                  exact Walk.nil _
                case hck => kernel_rfl
                case hQ =>
                  intro ρ A w1 h
                  refine wp_ret ?_
                  exact h.result41 Try.results44 rfl rfl ⟨by rw [mulL, hr], h.below⟩
end Go.Proofs.Ytnbdeajjfhlmnaa
