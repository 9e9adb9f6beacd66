/-
  aditref02: Clamp, square, turned, step, Times, Public, Shared; and curve.Shared.
-/
import Derived.Test.YtnbdeajjfhlmnaaLooseWalk
import Derived.Test.YtnbdeajjfhlmnaaRefSub
namespace Go.Proofs.Ytnbdeajjfhlmnaa
open Go.RowKit

theorem r_add8 {P : Program} {t : TypeId} {a b : Nat} (h : a + b < 256) (w : World) : (binOp .add t (.int .u8 a) (.int .u8 b)).run P w = .ok (.int .u8 ((a + b : Nat) : Int)) w := by
  show Result.ok (Value.int .u8 (IntKind.u8.wrap ((a : Int) + b))) w = _
  rw [← Int.natCast_add, u8_small h]
theorem clamp38_any (n : Nat) (_ : n < 2 ^ 256) (w : World) : Calls Try.prog 38 #[bv n] w fun e w' => e = .returned (bv (clampP n)) ∧ Below w.heap.size w w' := by
  have hb0 := byteOf_lt n 0
  have hb31 := byteOf_lt n 31
  have e31 := byte31_0 n (byteOf n 0 / 8 * 8) (clamp_b0 n)
  have hm : byteOf (setByte n 0 (byteOf n 0 / 8 * 8)) 31 % 64 + 64 < 256 := by rw [e31]; exact clamp_b31 n
  go_enter Try.func38, Try.ntmps38
  have h := Rep.start (N := 14) [bv n] [undef, undef, undef, undef, undef, undef, undef, undef, undef, undef, undef, undef, undef] w rfl
  apply seq_dag hmix h
  case hw =>
    apply Walk.cons
    · exact o_box24 1 rfl rfl rfl
    apply Walk.cons
    · exact o_alloc24 2 rfl rfl
    exact Walk.nil _
  case hck => kernel_rfl
  case hQ =>
    intro ρ A w1 h
    apply seq_dag hmix h
    case hw =>
      apply Walk.cons
      · exact o_at24 rfl rfl rfl rfl (by decide)
      apply Walk.cons
      · exact o_load5 rfl rfl rfl rfl (k := 0) (by decide)
      apply Walk.cons
      · exact o_bin rfl rfl rfl rfl (r_quo8 (a := byteOf n 0) (b := 8) (by decide) hb0)
      apply Walk.cons
      · exact o_bin rfl rfl rfl rfl (r_mul8 (a := byteOf n 0 / 8) (b := 8) (clamp_b0 n))
      apply Walk.cons
      · exact o_at24 rfl rfl rfl rfl (by decide)
      apply Walk.cons
      · exact o_store5 rfl rfl rfl rfl rfl (k := 0) (by decide) (clamp_b0 n)
      exact Walk.nil _
    case hck => kernel_rfl
    case hQ =>
      intro ρ A w1 h
      apply seq_dag hmix h
      case hw =>
        apply Walk.cons
        · exact o_at24 rfl rfl rfl rfl (by decide)
        apply Walk.cons
        · exact o_load5 rfl rfl rfl rfl (k := 31) (by decide)
        apply Walk.cons
        · exact o_bin rfl rfl rfl rfl (r_rem8 (a := byteOf (setByte n 0 (byteOf n 0 / 8 * 8)) 31) (b := 64) (by decide))
        apply Walk.cons
        · exact o_bin rfl rfl rfl rfl (r_add8 (a := byteOf (setByte n 0 (byteOf n 0 / 8 * 8)) 31 % 64) (b := 64) hm)
        apply Walk.cons
        · exact o_at24 rfl rfl rfl rfl (by decide)
        apply Walk.cons
        · exact o_store5 rfl rfl rfl rfl rfl (k := 31) (by decide) hm
        exact Walk.nil _
      case hck => kernel_rfl
      case hQ =>
        intro ρ A w1 h
        apply seq_dag hmix h
        case hw =>
          apply Walk.cons
          · exact o_load24 rfl rfl rfl rfl
          apply Walk.cons
          · exact o_store24 rfl rfl rfl rfl rfl
          exact Walk.nil _
        case hck => kernel_rfl
        case hQ =>
          intro ρ A w1 h
          refine wp_ret ?_
          exact h.result24 Try.results38 rfl rfl ⟨by rw [e31]; rfl, h.below⟩
theorem o_clamp38 {F : Fr} {ops : Array Oper} {S : St} {o : Oper} (hw : want ops S o = some true) {args : Array Operand} {ts : Array TypeId} (ho : o.op = .call { callee := .value (.func 38), args := args, argTypes := ts }) {a : Nat}
    (hx : args.toList.mapM S.av = some [.v (bv a)]) (ha : a < 2 ^ 256) : OpOK Try.prog F ops o S { val := .v (bv (clampP a)) } :=
  ok_call_val hw ho (by kernel_rfl) _ hx (rd := []) (fun _ w _ _ => clamp38_any a ha w)
theorem square_any (n : Nat) (hn : n < 2 ^ 256) (w : World) : Calls Try.prog 62 #[bv n] w fun e w' => e = .returned (bv (n * n % pp)) ∧ Below w.heap.size w w' := by
  go_enter Try.func62, Try.ntmps62
  have h := Rep.start (N := 6) [bv n] [undef, undef, undef, undef, undef] w rfl
  apply seq_dag hmix h
  case hw =>
    apply Walk.cons
    · exact o_box24 1 rfl rfl rfl
    apply Walk.cons
    · exact o_alloc24 2 rfl rfl
    exact Walk.nil _
  case hck => kernel_rfl
  case hQ =>
    intro ρ A w1 h
    apply seq_dag hmix h
    case hw =>
      apply Walk.cons
      · exact o_load24 rfl rfl rfl rfl
      apply Walk.cons
      · exact o_load24 rfl rfl rfl rfl
      apply Walk.cons
      · exact o_times rfl rfl rfl (by first | assumption | exact pp_lt _ | exact subP_lt _ _ | exact powP_lt _ _ | exact timesP_lt _ _ | exact clampP_lt _ | decide +kernel) (by first | assumption | exact pp_lt _ | exact subP_lt _ _ | exact powP_lt _ _ | exact timesP_lt _ _ | exact clampP_lt _ | decide +kernel)
      apply Walk.cons
      · exact o_store24 rfl rfl rfl rfl rfl
      exact Walk.nil _
    case hck => kernel_rfl
    case hQ =>
      intro ρ A w1 h
      refine wp_ret ?_
      exact h.result24 Try.results62 rfl rfl ⟨rfl, h.below⟩
theorem o_square {F : Fr} {ops : Array Oper} {S : St} {o : Oper} (hw : want ops S o = some true) {args : Array Operand} {ts : Array TypeId} (ho : o.op = .call { callee := .value (.func 62), args := args, argTypes := ts }) {a : Nat}
    (hx : args.toList.mapM S.av = some [.v (bv a)]) (ha : a < 2 ^ 256) : OpOK Try.prog F ops o S { val := .v (bv (a * a % pp)) } :=
  ok_call_val hw ho (by kernel_rfl) _ hx (rd := []) (fun _ w _ _ => square_any a ha w)

/-! ### points -/
def pvc (q : Q4) : Array Value := bvc q.x2 ++ bvc q.z2 ++ bvc q.x3 ++ bvc q.z3
def pv (q : Q4) : Value := .agg (pvc q)
@[simp] theorem size_pvc (q : Q4) : (pvc q).size = 128 := by simp [pvc]
theorem one_pvc (q : Q4) : (pvc q).all (·.oneCell') = true := by
  simp only [pvc, Array.all_append, one_bvc, Bool.and_self]
theorem pvc_0 (q : Q4) (k : Nat) (hk : k < 32) : (pvc q)[0 + k]? = (bvc q.x2)[k]? := by
  simp only [pvc]
  rw [Array.getElem?_append_left (by simp; omega), Array.getElem?_append_left (by simp; omega), Array.getElem?_append_left (by simp; omega), Nat.zero_add]
theorem pvc_1 (q : Q4) (k : Nat) (hk : k < 32) : (pvc q)[32 + k]? = (bvc q.z2)[k]? := by
  simp only [pvc]
  rw [Array.getElem?_append_left (by simp; omega), Array.getElem?_append_left (by simp; omega), Array.getElem?_append_right (by simp)]
  simp
theorem pvc_2 (q : Q4) (k : Nat) (hk : k < 32) : (pvc q)[64 + k]? = (bvc q.x3)[k]? := by
  simp only [pvc]
  rw [Array.getElem?_append_left (by simp; omega), Array.getElem?_append_right (by simp)]
  simp
theorem pvc_3 (q : Q4) (k : Nat) : (pvc q)[96 + k]? = (bvc q.z3)[k]? := by
  simp only [pvc]
  rw [Array.getElem?_append_right (by simp)]
  simp
theorem zero60 : tZero Try.prog 60 = some (pv ⟨0, 0, 0, 0⟩) := by kernel_rfl
theorem st60 : Try.prog.underlying 60 = some (.struct (Try.prog.fieldsOf 60)) := by kernel_rfl
theorem fd60_0 : ((Try.prog.fieldsOf 60)[0]?).map (fun f => (f.type, f.offset)) = some (24, 0) := by kernel_rfl
theorem fd60_1 : ((Try.prog.fieldsOf 60)[1]?).map (fun f => (f.type, f.offset)) = some (24, 32) := by kernel_rfl
theorem fd60_2 : ((Try.prog.fieldsOf 60)[2]?).map (fun f => (f.type, f.offset)) = some (24, 64) := by kernel_rfl
theorem fd60_3 : ((Try.prog.fieldsOf 60)[3]?).map (fun f => (f.type, f.offset)) = some (24, 96) := by kernel_rfl
section
variable {F : Fr} {ops : Array Oper} {S : St} {o : Oper}
theorem o_box60 (i : Nat) (hw : want ops S o = some true) {x : Operand} (ho : o.op = .box 60 x) {q : Q4} (hx : S.av x = some (.v (pv q))) : OpOK Try.prog F ops o S { val := .p i 0, new := some (i, ⟨pvc q, 60⟩) } := ok_box i hw ho hx
theorem o_alloc60 (i : Nat) (hw : want ops S o = some true) (ho : o.op = .alloc 60) : OpOK Try.prog F ops o S { val := .p i 0, new := some (i, ⟨pvc ⟨0, 0, 0, 0⟩, 60⟩) } := ok_alloc i hw ho zero60
theorem o_load60 (hw : want ops S o = some true) {x : Operand} (ho : o.op = .load 60 x) {i t : Nat} {q : Q4} (hx : S.av x = some (.p i 0)) (hb : S.blk i = some ⟨pvc q, t⟩) :
    OpOK Try.prog F ops o S { val := .v (pv q), rd := [i] } := ok_load_whole hw ho hx hb agg60 sz60 (size_pvc q)
theorem o_store60 (hw : want ops S o = some true) {x y : Operand} (ho : o.op = .store 60 x y) {i t : Nat} {q r : Q4} (hx : S.av x = some (.p i 0)) (hy : S.av y = some (.v (pv q))) (hb : S.blk i = some ⟨pvc r, t⟩) :
    OpOK Try.prog F ops o S { val := .v undef, wr := some (i, ⟨pvc q, t⟩), rd := [i] } := ok_store_whole hw ho hx hy hb sz60 (size_pvc q) (one_pvc q) (size_pvc r)
theorem o_field60 (hw : want ops S o = some true) {x : Operand} {f : Nat} (ho : o.op = .fieldAddr 60 x f) {i n : Nat} (hx : S.av x = some (.p i 0)) (hf4 : f < 4) (hn : 0 + f * 32 = n) : OpOK Try.prog F ops o S { val := .p i n } := by
  subst hn
  have hf : ((Try.prog.fieldsOf 60)[f]?).map (fun f => (f.type, f.offset)) = some (24, f * 32) := by
    have : f = 0 ∨ f = 1 ∨ f = 2 ∨ f = 3 := by omega
    rcases this with rfl | rfl | rfl | rfl
    · exact fd60_0
    · exact fd60_1
    · exact fd60_2
    · exact fd60_3
  cases hd : (Try.prog.fieldsOf 60)[f]? with
  | none => rw [hd] at hf; cases hf
  | some fd =>
    rw [hd] at hf
    simp only [Option.map_some, Option.some.injEq, Prod.mk.injEq] at hf
    have := ok_field (F := F) hw ho hx st60 hd (by rw [hf.1]; exact sz24) (by decide)
    rwa [hf.2] at this
theorem o_load24p0 (hw : want ops S o = some true) {x : Operand} (ho : o.op = .load 24 x) {i t : Nat} {q : Q4} (hx : S.av x = some (.p i 0)) (hb : S.blk i = some ⟨pvc q, t⟩) :
    OpOK Try.prog F ops o S { val := .v (bv q.x2), rd := [i] } := bv_def q.x2 ▸ ok_load_part hw ho hx hb agg24 sz24 (size_bvc q.x2) (fun k hk => pvc_0 q k hk)
theorem o_load24p1 (hw : want ops S o = some true) {x : Operand} (ho : o.op = .load 24 x) {i t : Nat} {q : Q4} (hx : S.av x = some (.p i 32)) (hb : S.blk i = some ⟨pvc q, t⟩) :
    OpOK Try.prog F ops o S { val := .v (bv q.z2), rd := [i] } := bv_def q.z2 ▸ ok_load_part hw ho hx hb agg24 sz24 (size_bvc q.z2) (fun k hk => pvc_1 q k hk)
theorem o_load24p2 (hw : want ops S o = some true) {x : Operand} (ho : o.op = .load 24 x) {i t : Nat} {q : Q4} (hx : S.av x = some (.p i 64)) (hb : S.blk i = some ⟨pvc q, t⟩) :
    OpOK Try.prog F ops o S { val := .v (bv q.x3), rd := [i] } := bv_def q.x3 ▸ ok_load_part hw ho hx hb agg24 sz24 (size_bvc q.x3) (fun k hk => pvc_2 q k hk)
theorem o_load24p3 (hw : want ops S o = some true) {x : Operand} (ho : o.op = .load 24 x) {i t : Nat} {q : Q4} (hx : S.av x = some (.p i 96)) (hb : S.blk i = some ⟨pvc q, t⟩) :
    OpOK Try.prog F ops o S { val := .v (bv q.z3), rd := [i] } := bv_def q.z3 ▸ ok_load_part hw ho hx hb agg24 sz24 (size_bvc q.z3) (fun k _ => pvc_3 q k)
end
theorem Rep.result60 {F : Fr} {S : St} {N : Nat} {ρ : Nat → Nat} {a : Act} {w : World} (h : Rep N S ρ F a w) {fn : Func} {p : Tmp} {i t : Nat} {q : Q4} {R : Ending → World → Prop}
    (hfn : fn.results = #[.cell p 60]) (hs : S.slot p = some (.p i 0)) (hb : S.blk i = some ⟨pvc q, t⟩) (hR : R (.returned (pv q)) w) : bodyPost Try.prog fn R .ret a w :=
  h.result hfn hs hb agg60 sz60 (size_pvc q) hR
def turnB (b : Bool) (q : Q4) : Q4 := if b = true then swap4 q else q
theorem turned_any (q : Q4) (b : Bool) (w : World) : Calls Try.prog 61 #[pv q, .bool b] w fun e w' => e = .returned (pv (turnB b q)) ∧ Below w.heap.size w w' := by
  cases b with
  | true =>
    go_enter Try.func61, Try.ntmps61
    have h := Rep.start (N := 16) [pv q, .bool true] [undef, undef, undef, undef, undef, undef, undef, undef, undef, undef, undef, undef, undef, undef] w rfl
    apply seq_dag hmix h
    case hw =>
      apply Walk.cons
      · exact o_box60 2 rfl rfl rfl
      apply Walk.cons
      · exact o_alloc60 4 rfl rfl
      exact Walk.nil _
    case hck => kernel_rfl
    case hQ =>
      intro ρ A w1 h
      refine wp_seq ?_
      apply seq_dag hmix h
      case hw =>
        apply Walk.cons
        · exact ok_move rfl rfl rfl
        exact Walk.nil _
      case hck => kernel_rfl
      case hQ =>
        intro ρ A w1 h
        refine if_true' h rfl ?_
        apply seq_dag hmix h
        case hw =>
          apply Walk.cons
          · exact o_field60 rfl rfl rfl (by decide) rfl
          apply Walk.cons
          · exact o_load24p2 rfl rfl rfl rfl
          apply Walk.cons
          · exact o_field60 rfl rfl rfl (by decide) rfl
          apply Walk.cons
          · exact o_load24p3 rfl rfl rfl rfl
          apply Walk.cons
          · exact o_field60 rfl rfl rfl (by decide) rfl
          apply Walk.cons
          · exact o_load24p0 rfl rfl rfl rfl
          apply Walk.cons
          · exact o_field60 rfl rfl rfl (by decide) rfl
          apply Walk.cons
          · exact o_load24p1 rfl rfl rfl rfl
          apply Walk.cons
          · exact o_built rfl rfl (by kernel_rfl) (v := pv (swap4 q)) (fun w => by kernel_rfl)
          apply Walk.cons
          · exact o_store60 rfl rfl rfl rfl rfl
          exact Walk.nil _
        case hck => kernel_rfl
        case hQ =>
          intro ρ A w1 h
          refine wp_ret (Exit.then_ret ?_)
          exact h.result60 Try.results61 rfl rfl ⟨rfl, h.below⟩
  | false =>
    go_enter Try.func61, Try.ntmps61
    have h := Rep.start (N := 16) [pv q, .bool false] [undef, undef, undef, undef, undef, undef, undef, undef, undef, undef, undef, undef, undef, undef] w rfl
    apply seq_dag hmix h
    case hw =>
      apply Walk.cons
      · exact o_box60 2 rfl rfl rfl
      apply Walk.cons
      · exact o_alloc60 4 rfl rfl
      exact Walk.nil _
    case hck => kernel_rfl
    case hQ =>
      intro ρ A w1 h
      refine wp_seq ?_
      apply seq_dag hmix h
      case hw =>
        apply Walk.cons
        · exact ok_move rfl rfl rfl
        exact Walk.nil _
      case hck => kernel_rfl
      case hQ =>
        intro ρ A w1 h
        refine if_false' h rfl (wp_skip ?_)
        refine Exit.then_normal ?_
        apply seq_dag hmix h
        case hw =>
          apply Walk.cons
          · exact o_load60 rfl rfl rfl rfl
          apply Walk.cons
          · exact o_store60 rfl rfl rfl rfl rfl
          exact Walk.nil _
        case hck => kernel_rfl
        case hQ =>
          intro ρ A w1 h
          refine wp_ret ?_
          exact h.result60 Try.results61 rfl rfl ⟨rfl, h.below⟩
theorem fn61 : goFn Try.prog 61 = true := by kernel_rfl
theorem fn58 : goFn Try.prog 58 = true := by kernel_rfl
def stepR (u : Nat) (q : Q4) : Q4 :=
  let a := (q.x2 + q.z2) % pp
  let b := subP q.x2 q.z2
  let c := (q.x3 + q.z3) % pp
  let d := subP q.x3 q.z3
  let aa := a * a % pp
  let bb := b * b % pp
  let e := subP aa bb
  let da := d * a % pp
  let cb := c * b % pp
  ⟨aa * bb % pp, e * ((aa + 121665 * e % pp) % pp) % pp, (da + cb) % pp * ((da + cb) % pp) % pp, u * (subP da cb * subP da cb % pp) % pp⟩
theorem stepR_eq (u : Nat) (q : Q4) : stepR u q = stepP u q := by
  simp only [stepR, stepP]
  congr 1
  rw [Nat.mul_mod_mod, Nat.mul_assoc]
theorem Ok4.turnB {q : Q4} (h : Ok4 q) (b : Bool) : Ok4 (turnB b q) := by
  cases b
  · exact h
  · exact h.swap
attribute [local irreducible] pp subP
set_option maxRecDepth 20000 in
set_option maxHeartbeats 1000000 in
theorem step58_any (q0 : Q4) (u : Nat) (b : Bool) (hq0 : Ok4 q0) (hu : u < 2 ^ 256) (w : World) : Calls Try.prog 58 #[pv q0, bv u, .bool b] w fun e w' => e = .returned (pv (turnB b (stepP u (turnB b q0)))) ∧ Below w.heap.size w w' := by
  have hq := hq0.turnB b
  rw [← stepR_eq]
  go_enter Try.func58, Try.ntmps58
  have h := Rep.start (N := 79) [pv q0, bv u, .bool b] [undef, undef, undef, undef, undef, undef, undef, undef, undef, undef, undef, undef, undef, undef, undef, undef, undef, undef, undef, undef, undef, undef, undef, undef, undef, undef, undef, undef, undef, undef, undef, undef, undef, undef, undef, undef, undef, undef, undef, undef, undef, undef, undef, undef, undef, undef, undef, undef, undef, undef, undef, undef, undef, undef, undef, undef, undef, undef, undef, undef, undef, undef, undef, undef, undef, undef, undef, undef, undef, undef, undef, undef, undef, undef, undef, undef] w rfl
  apply seq_dag hmix h
  case hw =>
    apply Walk.cons
    · exact o_box60 3 rfl rfl rfl
    apply Walk.cons
    · exact o_box24 4 rfl rfl rfl
    apply Walk.cons
    · exact o_alloc60 6 rfl rfl
    exact Walk.nil _
  case hck => kernel_rfl
  case hQ =>
    intro ρ A w1 h
    apply seq_dag hmix h
    case hw =>
      apply Walk.cons
      · exact o_built rfl rfl (by kernel_rfl) (v := bv 121665) (fun w => by kernel_rfl)
      apply Walk.cons
      · exact o_alloc24 7 rfl rfl
      apply Walk.cons
      · exact o_store24 rfl rfl rfl rfl rfl
      exact Walk.nil _
    case hck => kernel_rfl
    case hQ =>
      intro ρ A w1 h
      apply seq_dag hmix h
      case hw =>
        apply Walk.cons
        · exact o_load60 rfl rfl rfl rfl
        apply Walk.cons
        · exact ok_move rfl rfl rfl
        apply Walk.cons
        · exact ok_call_val rfl rfl fn61 [.v _, .v _] rfl (rd := []) (fun ρ w _ _ => turned_any q0 b w)
        apply Walk.cons
        · exact o_store60 rfl rfl rfl rfl rfl
        exact Walk.nil _
      case hck => kernel_rfl
      case hQ =>
        intro ρ A w1 h
        generalize turnB b q0 = q at h hq ⊢
        obtain ⟨c0, c1, c2, c3⟩ := hq
        apply seq_dag hmix h
        case hw =>
          apply Walk.cons
          · exact o_field60 rfl rfl rfl (by decide) rfl
          apply Walk.cons
          · exact o_load24p0 rfl rfl rfl rfl
          apply Walk.cons
          · exact o_field60 rfl rfl rfl (by decide) rfl
          apply Walk.cons
          · exact o_load24p1 rfl rfl rfl rfl
          apply Walk.cons
          · exact o_plus rfl rfl rfl (by first | assumption | exact pp_lt _ | exact subP_lt _ _ | exact powP_lt _ _ | exact timesP_lt _ _ | exact clampP_lt _ | decide +kernel) (by first | assumption | exact pp_lt _ | exact subP_lt _ _ | exact powP_lt _ _ | exact timesP_lt _ _ | exact clampP_lt _ | decide +kernel)
          apply Walk.cons
          · exact o_alloc24 8 rfl rfl
          apply Walk.cons
          · exact o_store24 rfl rfl rfl rfl rfl
          exact Walk.nil _
        case hck => kernel_rfl
        case hQ =>
          intro ρ A w1 h
          apply seq_dag hmix h
          case hw =>
            apply Walk.cons
            · exact o_field60 rfl rfl rfl (by decide) rfl
            apply Walk.cons
            · exact o_load24p0 rfl rfl rfl rfl
            apply Walk.cons
            · exact o_field60 rfl rfl rfl (by decide) rfl
            apply Walk.cons
            · exact o_load24p1 rfl rfl rfl rfl
            apply Walk.cons
            · exact o_sub26 rfl rfl rfl (by first | assumption | exact pp_lt _ | exact subP_lt _ _ | exact powP_lt _ _ | exact timesP_lt _ _ | exact clampP_lt _ | decide +kernel) (by first | assumption | exact pp_lt _ | exact subP_lt _ _ | exact powP_lt _ _ | exact timesP_lt _ _ | exact clampP_lt _ | decide +kernel)
            apply Walk.cons
            · exact o_alloc24 9 rfl rfl
            apply Walk.cons
            · exact o_store24 rfl rfl rfl rfl rfl
            exact Walk.nil _
          case hck => kernel_rfl
          case hQ =>
            intro ρ A w1 h
            apply seq_dag hmix h
            case hw =>
              apply Walk.cons
              · exact o_field60 rfl rfl rfl (by decide) rfl
              apply Walk.cons
              · exact o_load24p2 rfl rfl rfl rfl
              apply Walk.cons
              · exact o_field60 rfl rfl rfl (by decide) rfl
              apply Walk.cons
              · exact o_load24p3 rfl rfl rfl rfl
              apply Walk.cons
              · exact o_plus rfl rfl rfl (by first | assumption | exact pp_lt _ | exact subP_lt _ _ | exact powP_lt _ _ | exact timesP_lt _ _ | exact clampP_lt _ | decide +kernel) (by first | assumption | exact pp_lt _ | exact subP_lt _ _ | exact powP_lt _ _ | exact timesP_lt _ _ | exact clampP_lt _ | decide +kernel)
              apply Walk.cons
              · exact o_alloc24 10 rfl rfl
              apply Walk.cons
              · exact o_store24 rfl rfl rfl rfl rfl
              exact Walk.nil _
            case hck => kernel_rfl
            case hQ =>
              intro ρ A w1 h
              apply seq_dag hmix h
              case hw =>
                apply Walk.cons
                · exact o_field60 rfl rfl rfl (by decide) rfl
                apply Walk.cons
                · exact o_load24p2 rfl rfl rfl rfl
                apply Walk.cons
                · exact o_field60 rfl rfl rfl (by decide) rfl
                apply Walk.cons
                · exact o_load24p3 rfl rfl rfl rfl
                apply Walk.cons
                · exact o_sub26 rfl rfl rfl (by first | assumption | exact pp_lt _ | exact subP_lt _ _ | exact powP_lt _ _ | exact timesP_lt _ _ | exact clampP_lt _ | decide +kernel) (by first | assumption | exact pp_lt _ | exact subP_lt _ _ | exact powP_lt _ _ | exact timesP_lt _ _ | exact clampP_lt _ | decide +kernel)
                apply Walk.cons
                · exact o_alloc24 11 rfl rfl
                apply Walk.cons
                · exact o_store24 rfl rfl rfl rfl rfl
                exact Walk.nil _
              case hck => kernel_rfl
              case hQ =>
                intro ρ A w1 h
                apply seq_dag hmix h
                case hw =>
                  apply Walk.cons
                  · exact o_load24 rfl rfl rfl rfl
                  apply Walk.cons
                  · exact o_square rfl rfl rfl (by first | assumption | exact pp_lt _ | exact subP_lt _ _ | exact powP_lt _ _ | exact timesP_lt _ _ | exact clampP_lt _ | decide +kernel)
                  apply Walk.cons
                  · exact o_alloc24 12 rfl rfl
                  apply Walk.cons
                  · exact o_store24 rfl rfl rfl rfl rfl
                  exact Walk.nil _
                case hck => kernel_rfl
                case hQ =>
                  intro ρ A w1 h
                  apply seq_dag hmix h
                  case hw =>
                    apply Walk.cons
                    · exact o_load24 rfl rfl rfl rfl
                    apply Walk.cons
                    · exact o_square rfl rfl rfl (by first | assumption | exact pp_lt _ | exact subP_lt _ _ | exact powP_lt _ _ | exact timesP_lt _ _ | exact clampP_lt _ | decide +kernel)
                    apply Walk.cons
                    · exact o_alloc24 13 rfl rfl
                    apply Walk.cons
                    · exact o_store24 rfl rfl rfl rfl rfl
                    exact Walk.nil _
                  case hck => kernel_rfl
                  case hQ =>
                    intro ρ A w1 h
                    apply seq_dag hmix h
                    case hw =>
                      apply Walk.cons
                      · exact o_load24 rfl rfl rfl rfl
                      apply Walk.cons
                      · exact o_load24 rfl rfl rfl rfl
                      apply Walk.cons
                      · exact o_sub26 rfl rfl rfl (by first | assumption | exact pp_lt _ | exact subP_lt _ _ | exact powP_lt _ _ | exact timesP_lt _ _ | exact clampP_lt _ | decide +kernel) (by first | assumption | exact pp_lt _ | exact subP_lt _ _ | exact powP_lt _ _ | exact timesP_lt _ _ | exact clampP_lt _ | decide +kernel)
                      apply Walk.cons
                      · exact o_alloc24 14 rfl rfl
                      apply Walk.cons
                      · exact o_store24 rfl rfl rfl rfl rfl
                      exact Walk.nil _
                    case hck => kernel_rfl
                    case hQ =>
                      intro ρ A w1 h
                      apply seq_dag hmix h
                      case hw =>
                        apply Walk.cons
                        · exact o_load24 rfl rfl rfl rfl
                        apply Walk.cons
                        · exact o_load24 rfl rfl rfl rfl
                        apply Walk.cons
                        · exact o_times rfl rfl rfl (by first | assumption | exact pp_lt _ | exact subP_lt _ _ | exact powP_lt _ _ | exact timesP_lt _ _ | exact clampP_lt _ | decide +kernel) (by first | assumption | exact pp_lt _ | exact subP_lt _ _ | exact powP_lt _ _ | exact timesP_lt _ _ | exact clampP_lt _ | decide +kernel)
                        apply Walk.cons
                        · exact o_alloc24 15 rfl rfl
                        apply Walk.cons
                        · exact o_store24 rfl rfl rfl rfl rfl
                        exact Walk.nil _
                      case hck => kernel_rfl
                      case hQ =>
                        intro ρ A w1 h
                        apply seq_dag hmix h
                        case hw =>
                          apply Walk.cons
                          · exact o_load24 rfl rfl rfl rfl
                          apply Walk.cons
                          · exact o_load24 rfl rfl rfl rfl
                          apply Walk.cons
                          · exact o_times rfl rfl rfl (by first | assumption | exact pp_lt _ | exact subP_lt _ _ | exact powP_lt _ _ | exact timesP_lt _ _ | exact clampP_lt _ | decide +kernel) (by first | assumption | exact pp_lt _ | exact subP_lt _ _ | exact powP_lt _ _ | exact timesP_lt _ _ | exact clampP_lt _ | decide +kernel)
                          apply Walk.cons
                          · exact o_alloc24 16 rfl rfl
                          apply Walk.cons
                          · exact o_store24 rfl rfl rfl rfl rfl
                          exact Walk.nil _
                        case hck => kernel_rfl
                        case hQ =>
                          intro ρ A w1 h
                          apply seq_dag hmix h
                          case hw =>
                            apply Walk.cons
                            · exact o_load24 rfl rfl rfl rfl
                            apply Walk.cons
                            · exact o_load24 rfl rfl rfl rfl
                            apply Walk.cons
                            · exact o_times rfl rfl rfl (by first | assumption | exact pp_lt _ | exact subP_lt _ _ | exact powP_lt _ _ | exact timesP_lt _ _ | exact clampP_lt _ | decide +kernel) (by first | assumption | exact pp_lt _ | exact subP_lt _ _ | exact powP_lt _ _ | exact timesP_lt _ _ | exact clampP_lt _ | decide +kernel)
                            apply Walk.cons
                            · exact o_load24 rfl rfl rfl rfl
                            apply Walk.cons
                            · exact o_load24 rfl rfl rfl rfl
                            apply Walk.cons
                            · exact o_load24 rfl rfl rfl rfl
                            apply Walk.cons
                            · exact o_load24 rfl rfl rfl rfl
                            apply Walk.cons
                            · exact o_times rfl rfl rfl (by first | assumption | exact pp_lt _ | exact subP_lt _ _ | exact powP_lt _ _ | exact timesP_lt _ _ | exact clampP_lt _ | decide +kernel) (by first | assumption | exact pp_lt _ | exact subP_lt _ _ | exact powP_lt _ _ | exact timesP_lt _ _ | exact clampP_lt _ | decide +kernel)
                            apply Walk.cons
                            · exact o_plus rfl rfl rfl (by first | assumption | exact pp_lt _ | exact subP_lt _ _ | exact powP_lt _ _ | exact timesP_lt _ _ | exact clampP_lt _ | decide +kernel) (by first | assumption | exact pp_lt _ | exact subP_lt _ _ | exact powP_lt _ _ | exact timesP_lt _ _ | exact clampP_lt _ | decide +kernel)
                            apply Walk.cons
                            · exact o_times rfl rfl rfl (by first | assumption | exact pp_lt _ | exact subP_lt _ _ | exact powP_lt _ _ | exact timesP_lt _ _ | exact clampP_lt _ | decide +kernel) (by first | assumption | exact pp_lt _ | exact subP_lt _ _ | exact powP_lt _ _ | exact timesP_lt _ _ | exact clampP_lt _ | decide +kernel)
                            apply Walk.cons
                            · exact o_load24 rfl rfl rfl rfl
                            apply Walk.cons
                            · exact o_load24 rfl rfl rfl rfl
                            apply Walk.cons
                            · exact o_plus rfl rfl rfl (by first | assumption | exact pp_lt _ | exact subP_lt _ _ | exact powP_lt _ _ | exact timesP_lt _ _ | exact clampP_lt _ | decide +kernel) (by first | assumption | exact pp_lt _ | exact subP_lt _ _ | exact powP_lt _ _ | exact timesP_lt _ _ | exact clampP_lt _ | decide +kernel)
                            apply Walk.cons
                            · exact o_square rfl rfl rfl (by first | assumption | exact pp_lt _ | exact subP_lt _ _ | exact powP_lt _ _ | exact timesP_lt _ _ | exact clampP_lt _ | decide +kernel)
                            apply Walk.cons
                            · exact o_load24 rfl rfl rfl rfl
                            apply Walk.cons
                            · exact o_load24 rfl rfl rfl rfl
                            apply Walk.cons
                            · exact o_load24 rfl rfl rfl rfl
                            apply Walk.cons
                            · exact o_sub26 rfl rfl rfl (by first | assumption | exact pp_lt _ | exact subP_lt _ _ | exact powP_lt _ _ | exact timesP_lt _ _ | exact clampP_lt _ | decide +kernel) (by first | assumption | exact pp_lt _ | exact subP_lt _ _ | exact powP_lt _ _ | exact timesP_lt _ _ | exact clampP_lt _ | decide +kernel)
                            apply Walk.cons
                            · exact o_square rfl rfl rfl (by first | assumption | exact pp_lt _ | exact subP_lt _ _ | exact powP_lt _ _ | exact timesP_lt _ _ | exact clampP_lt _ | decide +kernel)
                            apply Walk.cons
                            · exact o_times rfl rfl rfl (by first | assumption | exact pp_lt _ | exact subP_lt _ _ | exact powP_lt _ _ | exact timesP_lt _ _ | exact clampP_lt _ | decide +kernel) (by first | assumption | exact pp_lt _ | exact subP_lt _ _ | exact powP_lt _ _ | exact timesP_lt _ _ | exact clampP_lt _ | decide +kernel)
                            apply Walk.cons
                            · exact o_built rfl rfl (by kernel_rfl) (v := pv (stepR u q)) (fun w => by kernel_rfl)
                            apply Walk.cons
                            · exact o_alloc60 17 rfl rfl
                            apply Walk.cons
                            · exact o_store60 rfl rfl rfl rfl rfl
                            exact Walk.nil _
                          case hck => kernel_rfl
                          case hQ =>
                            intro ρ A w1 h
                            apply seq_dag hmix h
                            case hw =>
                              apply Walk.cons
                              · exact o_load60 rfl rfl rfl rfl
                              apply Walk.cons
                              · exact ok_move rfl rfl rfl
                              apply Walk.cons
                              · exact ok_call_val rfl rfl fn61 [.v _, .v _] rfl (rd := []) (fun ρ w _ _ => turned_any (stepR u q) b w)
                              apply Walk.cons
                              · exact o_store60 rfl rfl rfl rfl rfl
                              exact Walk.nil _
                            case hck => kernel_rfl
                            case hQ =>
                              intro ρ A w1 h
                              refine wp_ret ?_
                              exact h.result60 Try.results58 rfl rfl ⟨rfl, h.below⟩

/-! ### Times -/
theorem turnB_turn (c : Nat) (q : Q4) : turnB (decide (c = 1)) q = turn c q := by
  unfold turnB turn
  by_cases h : c = 1
  · rw [if_pos h, decide_eq_true h]; rfl
  · rw [if_neg h, decide_eq_false h]; rfl
def t50S (k u j : Nat) : St := ⟨[(2, .p 2 0), (4, .p 4 0), (5, .p 5 0), (6, .p 6 0), (7, .v (.int .i64 ((254 : Int) - j)))], [(2, ⟨bvc k, 24⟩), (4, ⟨bvc 0, 24⟩), (5, ⟨bvc (u % pp), 24⟩), (6, ⟨pvc (lad k u j), 60⟩)]⟩
set_option maxRecDepth 20000 in
set_option maxHeartbeats 1000000 in
theorem times50_any (k0 u0 : Nat) (hk0 : k0 < 2 ^ 256) (_ : u0 < 2 ^ 256) (w : World) : Calls Try.prog 50 #[bv k0, bv u0] w fun e w' => e = .returned (bv (timesP k0 u0)) ∧ Below w.heap.size w w' := by
  have hT : timesP k0 u0 = endP (clampP k0) (maskP u0) := rfl
  have hkk := clampP_lt k0
  have huu := maskP_lt u0
  go_enter Try.func50, Try.ntmps50
  have h := Rep.start (N := 42) [bv k0, bv u0] [undef, undef, undef, undef, undef, undef, undef, undef, undef, undef, undef, undef, undef, undef, undef, undef, undef, undef, undef, undef, undef, undef, undef, undef, undef, undef, undef, undef, undef, undef, undef, undef, undef, undef, undef, undef, undef, undef, undef, undef] w rfl
  apply seq_dag hmix h
  case hw =>
    apply Walk.cons
    · exact o_box24 2 rfl rfl rfl
    apply Walk.cons
    · exact o_box24 3 rfl rfl rfl
    apply Walk.cons
    · exact o_alloc24 4 rfl rfl
    exact Walk.nil _
  case hck => kernel_rfl
  case hQ =>
    intro ρ A w1 h
    apply seq_dag hmix h
    case hw =>
      apply Walk.cons
      · exact o_load24 rfl rfl rfl rfl
      apply Walk.cons
      · exact o_clamp38 rfl rfl rfl (by first | assumption | exact pp_lt _ | exact subP_lt _ _ | exact powP_lt _ _ | exact timesP_lt _ _ | exact clampP_lt _ | decide +kernel)
      apply Walk.cons
      · exact o_store24 rfl rfl rfl rfl rfl
      exact Walk.nil _
    case hck => kernel_rfl
    case hQ =>
      intro ρ A w1 h
      apply seq_dag hmix h
      case hw =>
        apply Walk.cons
        · exact o_at24 rfl rfl rfl rfl (by decide)
        apply Walk.cons
        · exact o_load5 rfl rfl rfl rfl (k := 31) (by decide)
        apply Walk.cons
        · exact o_bin rfl rfl rfl rfl (r_rem8 (a := byteOf u0 31) (b := 128) (by decide))
        apply Walk.cons
        · exact o_at24 rfl rfl rfl rfl (by decide)
        apply Walk.cons
        · exact o_store5 rfl rfl rfl rfl rfl (k := 31) (by decide) (mask_b u0)
        exact Walk.nil _
      case hck => kernel_rfl
      case hQ =>
        intro ρ A w1 h
        have h := h.plain ⟨[(2, .p 2 0), (3, .p 3 0), (4, .p 4 0)], [(2, ⟨bvc (clampP k0), 24⟩), (3, ⟨bvc (maskP u0), 24⟩), (4, ⟨bvc 0, 24⟩)]⟩ ⟨rfl, rfl, rfl, trivial⟩ ⟨rfl, rfl, rfl, trivial⟩ rfl
        generalize clampP k0 = k at h hkk hT
        generalize maskP u0 = u at h huu hT
        apply seq_dag hmix h
        case hw =>
          apply Walk.cons
          · exact o_load24 rfl rfl rfl rfl
          apply Walk.cons
          · exact o_canon24 rfl rfl rfl (by first | assumption | exact pp_lt _ | exact subP_lt _ _ | exact powP_lt _ _ | exact timesP_lt _ _ | exact clampP_lt _ | decide +kernel)
          apply Walk.cons
          · exact o_alloc24 5 rfl rfl
          apply Walk.cons
          · exact o_store24 rfl rfl rfl rfl rfl
          exact Walk.nil _
        case hck => kernel_rfl
        case hQ =>
          intro ρ A w1 h
          apply seq_dag hmix h
          case hw =>
            apply Walk.cons
            · exact o_built rfl rfl (by kernel_rfl) (v := bv 1) (fun w => by kernel_rfl)
            apply Walk.cons
            · exact o_load24 rfl rfl rfl rfl
            apply Walk.cons
            · exact o_built rfl rfl (by kernel_rfl) (v := bv 1) (fun w => by kernel_rfl)
            apply Walk.cons
            · exact o_built rfl rfl (by kernel_rfl) (v := pv ⟨1, 0, u % pp, 1⟩) (fun w => by kernel_rfl)
            apply Walk.cons
            · exact o_alloc60 6 rfl rfl
            apply Walk.cons
            · exact o_store60 rfl rfl rfl rfl rfl
            exact Walk.nil _
          case hck => kernel_rfl
          case hQ =>
            intro ρ A w1 h
            refine wp_seq ?_
            apply seq_dag hmix h
            case hw =>
              apply Walk.cons
              · exact ok_assign rfl rfl rfl
              exact Walk.nil _
            case hck => kernel_rfl
            case hQ =>
              intro ρ A w1 h
              have h := h.plain (t50S k u 0) ⟨rfl, rfl, rfl, rfl, rfl, trivial⟩ ⟨rfl, rfl, rfl, rfl, trivial⟩ rfl
              refine wp_block ?_
              refine rep_loop 255 (t50S k u) h ?_
              intro j ρ A w2 hj h
              by_cases hlt : j < 255
              · obtain ⟨q, hq, rfl⟩ : ∃ q, q < 255 ∧ j = 254 - q := ⟨254 - j, by omega, by omega⟩
                have e255 : (254 : Int) - ((254 - q : Nat) : Int) = q := by omega
                have hbb := byteOf_lt k (q / 8)
                have hb2 : byteOf k (q / 8) / 2 ^ (q % 8) < 256 := Nat.lt_of_le_of_lt (Nat.div_le_self _ _) hbb
                have hqq : 254 - (254 - q) = q := by omega
                have hl := lad_ok k u (254 - q)
                have hum : u % pp < 2 ^ 256 := pp_lt _
                have hstep : turnB (decide (bitN k q = 1)) (stepP (u % pp) (turnB (decide (bitN k q = 1)) (lad k u (254 - q)))) = lad k u (254 - q + 1) := by rw [turnB_turn, turnB_turn, step_mod, lad, hqq]
                have h := h.plain ⟨[(2, .p 2 0), (4, .p 4 0), (5, .p 5 0), (6, .p 6 0), (7, .v (.int .i64 q))], [(2, ⟨bvc k, 24⟩), (4, ⟨bvc 0, 24⟩), (5, ⟨bvc (u % pp), 24⟩), (6, ⟨pvc (lad k u (254 - q)), 60⟩)]⟩ ⟨rfl, rfl, rfl, rfl, by rw [← e255]; rfl, trivial⟩ ⟨rfl, rfl, rfl, rfl, trivial⟩ rfl
                refine wp_seq ?_
                apply seq_dag hmix h
                case hw =>
                  apply Walk.cons
                  · exact ok_move rfl rfl rfl
                  apply Walk.cons
                  · exact o_bin rfl rfl rfl rfl (r_geqI (a := (q : Int)) (b := 0) (decide_eq_true (by omega)))
                  exact Walk.nil _
                case hck => kernel_rfl
                case hQ =>
                  intro ρ A w1 h
                  refine if_true' h rfl (wp_skip ?_)
                  refine Exit.then_normal ?_
                  refine wp_seq (wp_block ?_)
                  apply region_dag hmix h
                  case hw =>
                    apply Walk.cons
                    · exact o_load60 rfl rfl rfl rfl
                    apply Walk.cons
                    · exact o_load24 rfl rfl rfl rfl
                    apply Walk.cons
                    · exact ok_move rfl rfl rfl
                    apply Walk.cons
                    · exact o_bin rfl rfl rfl rfl (r_quoi (a := q) (b := 8) (by decide) (by omega))
                    apply Walk.cons
                    · exact o_at24 rfl rfl rfl rfl (j := q / 8) (by omega)
                    apply Walk.cons
                    · exact o_load5 rfl rfl rfl rfl (k := q / 8) (by omega)
                    apply Walk.cons
                    · exact ok_move rfl rfl rfl
                    apply Walk.cons
                    · exact o_bin rfl rfl rfl rfl (r_remi (a := q) (b := 8) (by decide))
                    apply Walk.cons
                    · exact o_bin rfl rfl rfl rfl (r_shr8 (byteOf k (q / 8)) (q % 8) .i64 (by omega))
                    apply Walk.cons
                    · exact o_bin rfl rfl rfl rfl (r_and (u8_and_one (byteOf k (q / 8) / 2 ^ (q % 8)) hb2))
                    apply Walk.cons
                    · exact o_bin rfl rfl rfl rfl (r_eqli (a := bitN k q) (b := 1) rfl)
                    apply Walk.cons
                    · exact ok_call_val rfl rfl fn58 [.v _, .v _, .v _] rfl (v := pv (lad k u (254 - q + 1))) (rd := []) (fun ρ w _ _ => by rw [← hstep]; exact step58_any (lad k u (254 - q)) (u % pp) (decide (bitN k q = 1)) hl hum w)
                    apply Walk.cons
                    · exact o_store60 rfl rfl rfl rfl rfl
                    exact Walk.nil _
                  case hck => kernel_rfl
                  case hQ =>
                    intro ρ A w1 h
                    refine Exit.block_normal (Exit.then_normal ?_)
                    apply region_dag hmix h
                    case hw =>
                      apply Walk.cons
                      · exact ok_move rfl rfl rfl
                      apply Walk.cons
                      · exact o_bin rfl rfl rfl rfl (r_subI (c := (254 : Int) - ((254 - q + 1 : Nat) : Int)) (by rw [IntKind.wrap_i64]; omega))
                      apply Walk.cons
                      · exact ok_assign rfl rfl rfl
                      exact Walk.nil _
                    case hck => kernel_rfl
                    case hQ =>
                      intro ρ A w1 h
                      exact ⟨_, hlt, h.plain (t50S k u (254 - q + 1)) ⟨rfl, rfl, rfl, rfl, rfl, trivial⟩ ⟨rfl, rfl, rfl, rfl, trivial⟩ rfl⟩
              · obtain rfl : j = 255 := by omega
                refine wp_seq ?_
                apply seq_dag hmix h
                case hw =>
                  apply Walk.cons
                  · exact ok_move rfl rfl rfl
                  apply Walk.cons
                  · exact o_bin rfl rfl rfl rfl (r_geqI (a := (254 : Int) - ((255 : Nat) : Int)) (b := 0) (decide_eq_false (by decide)))
                  exact Walk.nil _
                case hck => kernel_rfl
                case hQ =>
                  intro ρ A w1 h
                  refine if_false' h rfl (wp_exit (at_exit' ?_))
                  refine Exit.then_normal ?_
                  obtain ⟨c0, c1, _, _⟩ := lad_ok k u 255
                  apply seq_dag hmix h
                  case hw =>
                    apply Walk.cons
                    · exact o_field60 rfl rfl rfl (by decide) rfl
                    apply Walk.cons
                    · exact o_load24p0 rfl rfl rfl rfl
                    apply Walk.cons
                    · exact o_field60 rfl rfl rfl (by decide) rfl
                    apply Walk.cons
                    · exact o_load24p1 rfl rfl rfl rfl
                    apply Walk.cons
                    · exact o_inv31 rfl rfl rfl (by first | assumption | exact pp_lt _ | exact subP_lt _ _ | exact powP_lt _ _ | exact timesP_lt _ _ | exact clampP_lt _ | decide +kernel)
                    apply Walk.cons
                    · exact o_times rfl rfl rfl (by first | assumption | exact pp_lt _ | exact subP_lt _ _ | exact powP_lt _ _ | exact timesP_lt _ _ | exact clampP_lt _ | decide +kernel) (by first | assumption | exact pp_lt _ | exact subP_lt _ _ | exact powP_lt _ _ | exact timesP_lt _ _ | exact clampP_lt _ | decide +kernel)
                    apply Walk.cons
                    · exact o_store24 rfl rfl rfl rfl rfl
                    exact Walk.nil _
                  case hck => kernel_rfl
                  case hQ =>
                    intro ρ A w1 h
                    refine wp_ret ?_
                    exact h.result24 Try.results50 rfl rfl ⟨by rw [hT]; rfl, h.below⟩
theorem o_times50 {F : Fr} {ops : Array Oper} {S : St} {o : Oper} (hw : want ops S o = some true) {args : Array Operand} {ts : Array TypeId} (ho : o.op = .call { callee := .value (.func 50), args := args, argTypes := ts }) {a b : Nat}
    (hx : args.toList.mapM S.av = some [.v (bv a), .v (bv b)]) (ha : a < 2 ^ 256) (hb : b < 2 ^ 256) : OpOK Try.prog F ops o S { val := .v (bv (timesP a b)) } :=
  ok_call_val hw ho (by kernel_rfl) _ hx (rd := []) (fun _ w _ _ => times50_any a b ha hb w)
theorem public40_any (n : Nat) (hn : n < 2 ^ 256) (w : World) : Calls Try.prog 40 #[bv n] w fun e w' => e = .returned (bv (timesP n 9)) ∧ Below w.heap.size w w' := by
  go_enter Try.func40, Try.ntmps40
  have h := Rep.start (N := 6) [bv n] [undef, undef, undef, undef, undef] w rfl
  apply seq_dag hmix h
  case hw =>
    apply Walk.cons
    · exact o_box24 1 rfl rfl rfl
    apply Walk.cons
    · exact o_alloc24 2 rfl rfl
    exact Walk.nil _
  case hck => kernel_rfl
  case hQ =>
    intro ρ A w1 h
    apply seq_dag hmix h
    case hw =>
      apply Walk.cons
      · exact o_load24 rfl rfl rfl rfl
      apply Walk.cons
      · exact o_built rfl rfl (by kernel_rfl) (v := bv 9) (fun w => by kernel_rfl)
      apply Walk.cons
      · exact o_times50 rfl rfl rfl (by first | assumption | exact pp_lt _ | exact subP_lt _ _ | exact powP_lt _ _ | exact timesP_lt _ _ | exact clampP_lt _ | decide +kernel) (by first | assumption | exact pp_lt _ | exact subP_lt _ _ | exact powP_lt _ _ | exact timesP_lt _ _ | exact clampP_lt _ | decide +kernel)
      apply Walk.cons
      · exact o_store24 rfl rfl rfl rfl rfl
      exact Walk.nil _
    case hck => kernel_rfl
    case hQ =>
      intro ρ A w1 h
      refine wp_ret ?_
      exact h.result24 Try.results40 rfl rfl ⟨rfl, h.below⟩
theorem o_public40 {F : Fr} {ops : Array Oper} {S : St} {o : Oper} (hw : want ops S o = some true) {args : Array Operand} {ts : Array TypeId} (ho : o.op = .call { callee := .value (.func 40), args := args, argTypes := ts }) {a : Nat}
    (hx : args.toList.mapM S.av = some [.v (bv a)]) (ha : a < 2 ^ 256) : OpOK Try.prog F ops o S { val := .v (bv (timesP a 9)) } :=
  ok_call_val hw ho (by kernel_rfl) _ hx (rd := []) (fun _ w _ _ => public40_any a ha w)

/-! ### Shared -/
theorem Rep.result_two {F : Fr} {S : St} {N : Nat} {ρ : Nat → Nat} {a : Act} {w : World} (h : Rep N S ρ F a w) {fn : Func} {p r : Tmp} {n i t : Nat} {b : Bool} {R : Ending → World → Prop}
    (hfn : fn.results = #[.cell p 24, .tmp r]) (hs : S.slot p = some (.p i 0)) (hb : S.blk i = some ⟨bvc n, t⟩) (hr : S.slot r = some (.v (.bool b))) (hR : R (.returned (.tuple #[bv n, .bool b])) w) : bodyPost Try.prog fn R .ret a w := by
  refine ⟨h.defers, .tuple #[bv n, .bool b], ?_, hR⟩
  have hp := h.slots _ _ hs
  have hq := h.slots _ _ hr
  have hm := h.mem _ _ hb
  have hl := run_loadAgg (P := Try.prog) (w := w) (g := ρ i) (off := 0) (cs := bvc n) agg24 sz24 (size_bvc n) (fun k _ => by rw [cell_of_obj hm]; simp)
  rw [← bv_def] at hl
  simp [results, hfn, hp, hq, asAddr, hl, AV.p, AV.v, AV.to]
theorem shared36_any (n m : Nat) (hn : n < 2 ^ 256) (hm : m < 2 ^ 256) (w : World) : Calls Try.prog 36 #[bv n, bv m] w fun e w' => e = .returned (.tuple #[bv (timesP n m), .bool (decide (timesP n m ≠ 0))]) ∧ Below w.heap.size w w' := by
  go_enter Try.func36, Try.ntmps36
  have h := Rep.start (N := 14) [bv n, bv m] [undef, undef, undef, undef, undef, undef, undef, undef, undef, undef, undef, undef] w rfl
  apply seq_dag hmix h
  case hw =>
    apply Walk.cons
    · exact o_box24 2 rfl rfl rfl
    apply Walk.cons
    · exact o_box24 3 rfl rfl rfl
    apply Walk.cons
    · exact o_alloc24 4 rfl rfl
    apply Walk.cons
    · exact ok_assign rfl rfl rfl
    exact Walk.nil _
  case hck => kernel_rfl
  case hQ =>
    intro ρ A w1 h
    apply seq_dag hmix h
    case hw =>
      apply Walk.cons
      · exact o_load24 rfl rfl rfl rfl
      apply Walk.cons
      · exact o_load24 rfl rfl rfl rfl
      apply Walk.cons
      · exact o_times33 rfl rfl rfl (by first | assumption | exact pp_lt _ | exact subP_lt _ _ | exact powP_lt _ _ | exact timesP_lt _ _ | exact clampP_lt _ | decide +kernel) (by first | assumption | exact pp_lt _ | exact subP_lt _ _ | exact powP_lt _ _ | exact timesP_lt _ _ | exact clampP_lt _ | decide +kernel)
      apply Walk.cons
      · exact o_alloc24 6 rfl rfl
      apply Walk.cons
      · exact o_store24 rfl rfl rfl rfl rfl
      exact Walk.nil _
    case hck => kernel_rfl
    case hQ =>
      intro ρ A w1 h
      apply seq_dag hmix h
      case hw =>
        apply Walk.cons
        · exact o_load24 rfl rfl rfl rfl
        apply Walk.cons
        · exact o_load24 rfl rfl rfl rfl
        apply Walk.cons
        · exact o_built rfl rfl (by kernel_rfl) (v := bv 0) (fun w => by kernel_rfl)
        apply Walk.cons
        · exact o_neq24 rfl rfl rfl rfl (timesP_lt n m) (by decide +kernel) rfl
        apply Walk.cons
        · exact o_store24 rfl rfl rfl rfl rfl
        apply Walk.cons
        · exact ok_assign rfl rfl rfl
        exact Walk.nil _
      case hck => kernel_rfl
      case hQ =>
        intro ρ A w1 h
        refine wp_ret ?_
        exact h.result_two Try.results36 rfl rfl rfl ⟨rfl, h.below⟩
theorem shared37_any (n m : Nat) (hn : n < 2 ^ 256) (hm : m < 2 ^ 256) (w : World) : Calls Try.prog 37 #[bv n, bv m] w fun e w' => e = .returned (.tuple #[bv (timesP n m), .bool (decide (timesP n m ≠ 0))]) ∧ Below w.heap.size w w' := by
  go_enter Try.func37, Try.ntmps37
  have h := Rep.start (N := 14) [bv n, bv m] [undef, undef, undef, undef, undef, undef, undef, undef, undef, undef, undef, undef] w rfl
  apply seq_dag hmix h
  case hw =>
    apply Walk.cons
    · exact o_box24 2 rfl rfl rfl
    apply Walk.cons
    · exact o_box24 3 rfl rfl rfl
    apply Walk.cons
    · exact o_alloc24 4 rfl rfl
    apply Walk.cons
    · exact ok_assign rfl rfl rfl
    exact Walk.nil _
  case hck => kernel_rfl
  case hQ =>
    intro ρ A w1 h
    apply seq_dag hmix h
    case hw =>
      apply Walk.cons
      · exact o_load24 rfl rfl rfl rfl
      apply Walk.cons
      · exact o_load24 rfl rfl rfl rfl
      apply Walk.cons
      · exact o_times50 rfl rfl rfl (by first | assumption | exact pp_lt _ | exact subP_lt _ _ | exact powP_lt _ _ | exact timesP_lt _ _ | exact clampP_lt _ | decide +kernel) (by first | assumption | exact pp_lt _ | exact subP_lt _ _ | exact powP_lt _ _ | exact timesP_lt _ _ | exact clampP_lt _ | decide +kernel)
      apply Walk.cons
      · exact o_alloc24 6 rfl rfl
      apply Walk.cons
      · exact o_store24 rfl rfl rfl rfl rfl
      exact Walk.nil _
    case hck => kernel_rfl
    case hQ =>
      intro ρ A w1 h
      apply seq_dag hmix h
      case hw =>
        apply Walk.cons
        · exact o_load24 rfl rfl rfl rfl
        apply Walk.cons
        · exact o_load24 rfl rfl rfl rfl
        apply Walk.cons
        · exact o_built rfl rfl (by kernel_rfl) (v := bv 0) (fun w => by kernel_rfl)
        apply Walk.cons
        · exact o_neq24 rfl rfl rfl rfl (timesP_lt n m) (by decide +kernel) rfl
        apply Walk.cons
        · exact o_store24 rfl rfl rfl rfl rfl
        apply Walk.cons
        · exact ok_assign rfl rfl rfl
        exact Walk.nil _
      case hck => kernel_rfl
      case hQ =>
        intro ρ A w1 h
        refine wp_ret ?_
        exact h.result_two Try.results37 rfl rfl rfl ⟨rfl, h.below⟩
theorem fn36 : goFn Try.prog 36 = true := by kernel_rfl
theorem fn37 : goFn Try.prog 37 = true := by kernel_rfl
set_option maxRecDepth 20000 in
set_option maxHeartbeats 1000000 in
theorem law12_any (k u : Nat) (hk : k < 2 ^ 256) (hu : u < 2 ^ 256) (w : World) : Calls Try.prog 12 #[bv k, bv u] w fun e w' => e = .returned (.bool true) ∧ Below w.heap.size w w' := by
  go_enter Try.func12, Try.ntmps12
  have h := Rep.start (N := 53) [bv k, bv u] [undef, undef, undef, undef, undef, undef, undef, undef, undef, undef, undef, undef, undef, undef, undef, undef, undef, undef, undef, undef, undef, undef, undef, undef, undef, undef, undef, undef, undef, undef, undef, undef, undef, undef, undef, undef, undef, undef, undef, undef, undef, undef, undef, undef, undef, undef, undef, undef, undef, undef, undef] w rfl
  apply seq_dag hmix h
  case hw =>
    apply Walk.cons
    · exact o_box24 2 rfl rfl rfl
    apply Walk.cons
    · exact o_box24 3 rfl rfl rfl
    apply Walk.cons
    · exact ok_assign rfl rfl rfl
    exact Walk.nil _
  case hck => kernel_rfl
  case hQ =>
    intro ρ A w1 h
    apply seq_dag hmix h
    case hw =>
      apply Walk.cons
      · exact o_load24 rfl rfl rfl rfl
      apply Walk.cons
      · exact o_load24 rfl rfl rfl rfl
      apply Walk.cons
      · exact ok_call_val rfl rfl fn36 [.v _, .v _] rfl (rd := []) (fun ρ w _ _ => shared36_any k u hk hu w)
      apply Walk.cons
      · exact ok_move rfl rfl rfl
      apply Walk.cons
      · exact o_extract rfl rfl rfl rfl
      apply Walk.cons
      · exact o_extract rfl rfl rfl rfl
      apply Walk.cons
      · exact o_alloc24 5 rfl rfl
      apply Walk.cons
      · exact o_store24 rfl rfl rfl rfl rfl
      apply Walk.cons
      · exact ok_assign rfl rfl rfl
      exact Walk.nil _
    case hck => kernel_rfl
    case hQ =>
      intro ρ A w1 h
      apply seq_dag hmix h
      case hw =>
        apply Walk.cons
        · exact o_load24 rfl rfl rfl rfl
        apply Walk.cons
        · exact o_load24 rfl rfl rfl rfl
        apply Walk.cons
        · exact ok_call_val rfl rfl fn37 [.v _, .v _] rfl (rd := []) (fun ρ w _ _ => shared37_any k u hk hu w)
        apply Walk.cons
        · exact ok_move rfl rfl rfl
        apply Walk.cons
        · exact o_extract rfl rfl rfl rfl
        apply Walk.cons
        · exact o_extract rfl rfl rfl rfl
        apply Walk.cons
        · exact o_alloc24 7 rfl rfl
        apply Walk.cons
        · exact o_store24 rfl rfl rfl rfl rfl
        apply Walk.cons
        · exact ok_assign rfl rfl rfl
        exact Walk.nil _
      case hck => kernel_rfl
      case hQ =>
        intro ρ A w1 h
        generalize hc : decide (timesP k u ≠ 0) = c at h
        cases c with
        | true =>
          apply seq_dag hmix h
          case hw =>
            apply Walk.cons
            · exact o_load24 rfl rfl rfl rfl
            apply Walk.cons
            · exact o_load24 rfl rfl rfl rfl
            apply Walk.cons
            · exact o_times33 rfl rfl rfl (by first | assumption | exact pp_lt _ | exact subP_lt _ _ | exact powP_lt _ _ | exact timesP_lt _ _ | exact clampP_lt _ | decide +kernel) (by first | assumption | exact pp_lt _ | exact subP_lt _ _ | exact powP_lt _ _ | exact timesP_lt _ _ | exact clampP_lt _ | decide +kernel)
            apply Walk.cons
            · exact o_load24 rfl rfl rfl rfl
            apply Walk.cons
            · exact o_eql24 rfl rfl rfl rfl (by first | assumption | exact pp_lt _ | exact subP_lt _ _ | exact powP_lt _ _ | exact timesP_lt _ _ | exact clampP_lt _ | decide +kernel) (by first | assumption | exact pp_lt _ | exact subP_lt _ _ | exact powP_lt _ _ | exact timesP_lt _ _ | exact clampP_lt _ | decide +kernel) (decide_eq_true rfl)
            apply Walk.cons
            · exact ok_move rfl rfl rfl
            apply Walk.cons
            · exact o_load24 rfl rfl rfl rfl
            apply Walk.cons
            · exact o_clamp rfl rfl rfl (by first | assumption | exact pp_lt _ | exact subP_lt _ _ | exact powP_lt _ _ | exact timesP_lt _ _ | exact clampP_lt _ | decide +kernel)
            apply Walk.cons
            · exact o_load24 rfl rfl rfl rfl
            apply Walk.cons
            · exact o_clamp38 rfl rfl rfl (by first | assumption | exact pp_lt _ | exact subP_lt _ _ | exact powP_lt _ _ | exact timesP_lt _ _ | exact clampP_lt _ | decide +kernel)
            apply Walk.cons
            · exact o_eql24 rfl rfl rfl rfl (by first | assumption | exact pp_lt _ | exact subP_lt _ _ | exact powP_lt _ _ | exact timesP_lt _ _ | exact clampP_lt _ | decide +kernel) (by first | assumption | exact pp_lt _ | exact subP_lt _ _ | exact powP_lt _ _ | exact timesP_lt _ _ | exact clampP_lt _ | decide +kernel) (decide_eq_true rfl)
            apply Walk.cons
            · exact ok_pick_true rfl rfl rfl rfl
            apply Walk.cons
            · exact ok_move rfl rfl rfl
            apply Walk.cons
            · exact o_load24 rfl rfl rfl rfl
            apply Walk.cons
            · exact o_public39 rfl rfl rfl (by first | assumption | exact pp_lt _ | exact subP_lt _ _ | exact powP_lt _ _ | exact timesP_lt _ _ | exact clampP_lt _ | decide +kernel)
            apply Walk.cons
            · exact o_load24 rfl rfl rfl rfl
            apply Walk.cons
            · exact o_public40 rfl rfl rfl (by first | assumption | exact pp_lt _ | exact subP_lt _ _ | exact powP_lt _ _ | exact timesP_lt _ _ | exact clampP_lt _ | decide +kernel)
            apply Walk.cons
            · exact o_eql24 rfl rfl rfl rfl (by first | assumption | exact pp_lt _ | exact subP_lt _ _ | exact powP_lt _ _ | exact timesP_lt _ _ | exact clampP_lt _ | decide +kernel) (by first | assumption | exact pp_lt _ | exact subP_lt _ _ | exact powP_lt _ _ | exact timesP_lt _ _ | exact clampP_lt _ | decide +kernel) (decide_eq_true rfl)
            apply Walk.cons
            · exact ok_pick_true rfl rfl rfl rfl
            apply Walk.cons
            · exact ok_move rfl rfl rfl
            apply Walk.cons
            · exact o_load24 rfl rfl rfl rfl
            apply Walk.cons
            · exact o_load24 rfl rfl rfl rfl
            apply Walk.cons
            · exact o_eql24 rfl rfl rfl rfl (by first | assumption | exact pp_lt _ | exact subP_lt _ _ | exact powP_lt _ _ | exact timesP_lt _ _ | exact clampP_lt _ | decide +kernel) (by first | assumption | exact pp_lt _ | exact subP_lt _ _ | exact powP_lt _ _ | exact timesP_lt _ _ | exact clampP_lt _ | decide +kernel) (decide_eq_true rfl)
            apply Walk.cons
            · exact ok_pick_true rfl rfl rfl rfl
            apply Walk.cons
            · exact ok_move rfl rfl rfl
            apply Walk.cons
            · exact ok_move rfl rfl rfl
            apply Walk.cons
            · exact ok_move rfl rfl rfl
            apply Walk.cons
            · exact ok_pure rfl (by kernel_rfl) (v := .bool true) (fun w => by kernel_rfl)
            apply Walk.cons
            · exact ok_pick_true rfl rfl rfl rfl
            apply Walk.cons
            · exact ok_move rfl rfl rfl
            apply Walk.cons
            · exact ok_call_val rfl rfl fn34 [] rfl (rd := []) (fun ρ w _ _ => awake34_any w)
            apply Walk.cons
            · exact ok_pick_true rfl rfl rfl rfl
            apply Walk.cons
            · exact ok_assign rfl rfl rfl
            exact Walk.nil _
          case hck => kernel_rfl
          case hQ =>
            intro ρ A w1 h
            refine wp_ret ?_
            exact h.result_tmp Try.results12 rfl ⟨rfl, h.below⟩
        | false =>
          apply seq_dag hmix h
          case hw =>
            apply Walk.cons
            · exact o_load24 rfl rfl rfl rfl
            apply Walk.cons
            · exact o_load24 rfl rfl rfl rfl
            apply Walk.cons
            · exact o_times33 rfl rfl rfl (by first | assumption | exact pp_lt _ | exact subP_lt _ _ | exact powP_lt _ _ | exact timesP_lt _ _ | exact clampP_lt _ | decide +kernel) (by first | assumption | exact pp_lt _ | exact subP_lt _ _ | exact powP_lt _ _ | exact timesP_lt _ _ | exact clampP_lt _ | decide +kernel)
            apply Walk.cons
            · exact o_load24 rfl rfl rfl rfl
            apply Walk.cons
            · exact o_eql24 rfl rfl rfl rfl (by first | assumption | exact pp_lt _ | exact subP_lt _ _ | exact powP_lt _ _ | exact timesP_lt _ _ | exact clampP_lt _ | decide +kernel) (by first | assumption | exact pp_lt _ | exact subP_lt _ _ | exact powP_lt _ _ | exact timesP_lt _ _ | exact clampP_lt _ | decide +kernel) (decide_eq_true rfl)
            apply Walk.cons
            · exact ok_move rfl rfl rfl
            apply Walk.cons
            · exact o_load24 rfl rfl rfl rfl
            apply Walk.cons
            · exact o_clamp rfl rfl rfl (by first | assumption | exact pp_lt _ | exact subP_lt _ _ | exact powP_lt _ _ | exact timesP_lt _ _ | exact clampP_lt _ | decide +kernel)
            apply Walk.cons
            · exact o_load24 rfl rfl rfl rfl
            apply Walk.cons
            · exact o_clamp38 rfl rfl rfl (by first | assumption | exact pp_lt _ | exact subP_lt _ _ | exact powP_lt _ _ | exact timesP_lt _ _ | exact clampP_lt _ | decide +kernel)
            apply Walk.cons
            · exact o_eql24 rfl rfl rfl rfl (by first | assumption | exact pp_lt _ | exact subP_lt _ _ | exact powP_lt _ _ | exact timesP_lt _ _ | exact clampP_lt _ | decide +kernel) (by first | assumption | exact pp_lt _ | exact subP_lt _ _ | exact powP_lt _ _ | exact timesP_lt _ _ | exact clampP_lt _ | decide +kernel) (decide_eq_true rfl)
            apply Walk.cons
            · exact ok_pick_true rfl rfl rfl rfl
            apply Walk.cons
            · exact ok_move rfl rfl rfl
            apply Walk.cons
            · exact o_load24 rfl rfl rfl rfl
            apply Walk.cons
            · exact o_public39 rfl rfl rfl (by first | assumption | exact pp_lt _ | exact subP_lt _ _ | exact powP_lt _ _ | exact timesP_lt _ _ | exact clampP_lt _ | decide +kernel)
            apply Walk.cons
            · exact o_load24 rfl rfl rfl rfl
            apply Walk.cons
            · exact o_public40 rfl rfl rfl (by first | assumption | exact pp_lt _ | exact subP_lt _ _ | exact powP_lt _ _ | exact timesP_lt _ _ | exact clampP_lt _ | decide +kernel)
            apply Walk.cons
            · exact o_eql24 rfl rfl rfl rfl (by first | assumption | exact pp_lt _ | exact subP_lt _ _ | exact powP_lt _ _ | exact timesP_lt _ _ | exact clampP_lt _ | decide +kernel) (by first | assumption | exact pp_lt _ | exact subP_lt _ _ | exact powP_lt _ _ | exact timesP_lt _ _ | exact clampP_lt _ | decide +kernel) (decide_eq_true rfl)
            apply Walk.cons
            · exact ok_pick_true rfl rfl rfl rfl
            apply Walk.cons
            · exact ok_move rfl rfl rfl
            apply Walk.cons
            · exact o_load24 rfl rfl rfl rfl
            apply Walk.cons
            · exact o_load24 rfl rfl rfl rfl
            apply Walk.cons
            · exact o_eql24 rfl rfl rfl rfl (by first | assumption | exact pp_lt _ | exact subP_lt _ _ | exact powP_lt _ _ | exact timesP_lt _ _ | exact clampP_lt _ | decide +kernel) (by first | assumption | exact pp_lt _ | exact subP_lt _ _ | exact powP_lt _ _ | exact timesP_lt _ _ | exact clampP_lt _ | decide +kernel) (decide_eq_true rfl)
            apply Walk.cons
            · exact ok_pick_true rfl rfl rfl rfl
            apply Walk.cons
            · exact ok_move rfl rfl rfl
            apply Walk.cons
            · exact ok_move rfl rfl rfl
            apply Walk.cons
            · exact ok_move rfl rfl rfl
            apply Walk.cons
            · exact ok_pure rfl (by kernel_rfl) (v := .bool true) (fun w => by kernel_rfl)
            apply Walk.cons
            · exact ok_pick_true rfl rfl rfl rfl
            apply Walk.cons
            · exact ok_move rfl rfl rfl
            apply Walk.cons
            · exact ok_call_val rfl rfl fn34 [] rfl (rd := []) (fun ρ w _ _ => awake34_any w)
            apply Walk.cons
            · exact ok_pick_true rfl rfl rfl rfl
            apply Walk.cons
            · exact ok_assign rfl rfl rfl
            exact Walk.nil _
          case hck => kernel_rfl
          case hQ =>
            intro ρ A w1 h
            refine wp_ret ?_
            exact h.result_tmp Try.results12 rfl ⟨rfl, h.below⟩
end Go.Proofs.Ytnbdeajjfhlmnaa
