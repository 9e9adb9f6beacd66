/-
  bits.Mul64, and the sums of products of package field: (wide).plus, (wide).up, row.
-/
import Derived.Test.YtnbdeajjfhlmnaaPut
namespace Go.Proofs.Ytnbdeajjfhlmnaa
open Go.RowKit

theorem mul_split (x0 x1 y0 y1 : Nat) : (x1 * 4294967296 + x0) * (y1 * 4294967296 + y0) = x1 * y1 * 18446744073709551616 + (x1 * y0 + x0 * y1) * 4294967296 + x0 * y0 := by grind
theorem mul_hi (x y : Nat) :
    x / 4294967296 * (y / 4294967296) + (x / 4294967296 * (y % 4294967296) + x % 4294967296 * (y % 4294967296) / 4294967296) / 4294967296 +
      ((x / 4294967296 * (y % 4294967296) + x % 4294967296 * (y % 4294967296) / 4294967296) % 4294967296 + x % 4294967296 * (y / 4294967296)) / 4294967296 = x * y / 18446744073709551616 := by
  have hx' : x / 4294967296 * 4294967296 + x % 4294967296 = x := Nat.div_add_mod' x 4294967296
  have hy' : y / 4294967296 * 4294967296 + y % 4294967296 = y := Nat.div_add_mod' y 4294967296
  have h := mul_split (x % 4294967296) (x / 4294967296) (y % 4294967296) (y / 4294967296)
  rw [hx', hy'] at h
  rw [h]
  clear h hx' hy'
  generalize x / 4294967296 * (y / 4294967296) = p11
  generalize x / 4294967296 * (y % 4294967296) = p10
  generalize x % 4294967296 * (y / 4294967296) = p01
  generalize x % 4294967296 * (y % 4294967296) = p00
  omega
theorem mul32 {a b : Nat} (ha : a ≤ 4294967295) (hb : b ≤ 4294967295) : a * b ≤ 18446744065119617025 := Nat.mul_le_mul ha hb
theorem u64_and32 (x : Nat) (h : x < 18446744073709551616) : bits .and .u64 (x : Int) 4294967295 = ((x % 4294967296 : Nat) : Int) := by
  have := u64_and_nat x 4294967295 h (by decide)
  rw [show x &&& 4294967295 = x % 4294967296 from Nat.and_two_pow_sub_one_eq_mod x 32] at this
  exact this

def wvc (n : Nat) : Array Value := #[.int .u64 ((n / 18446744073709551616 : Nat) : Int), .int .u64 ((n % 18446744073709551616 : Nat) : Int)]
def wv (n : Nat) : Value := .agg (wvc n)
@[simp] theorem size_wvc (n : Nat) : (wvc n).size = 2 := rfl
theorem one_wvc (n : Nat) : (wvc n).all (·.oneCell') = true := by simp [wvc, Value.oneCell']
theorem zero53 : tZero Try.prog 53 = some (wv 0) := by kernel_rfl
theorem fn59 : goFn Try.prog 59 = true := by kernel_rfl
theorem fn60 : goFn Try.prog 60 = true := by kernel_rfl
theorem st53 : Try.prog.underlying 53 = some (.struct (Try.prog.fieldsOf 53)) := by kernel_rfl
theorem fd53_0 : ((Try.prog.fieldsOf 53)[0]?).map (fun f => (f.type, f.offset)) = some (39, 0) := by kernel_rfl
theorem fd53_1 : ((Try.prog.fieldsOf 53)[1]?).map (fun f => (f.type, f.offset)) = some (39, 1) := by kernel_rfl

section
variable {P : Program} {F : Fr} {ops : Array Oper} {S : St} {o : Oper}
theorem o_load53 (hw : want ops S o = some true) {x : Operand} (ho : o.op = .load 53 x) {i n t : Nat} (hx : S.av x = some (.p i 0)) (hb : S.blk i = some ⟨wvc n, t⟩) :
    OpOK Try.prog F ops o S { val := .v (wv n), rd := [i] } := ok_load_whole hw ho hx hb agg53 sz53 (size_wvc n)
theorem o_store53 (hw : want ops S o = some true) {x y : Operand} (ho : o.op = .store 53 x y) {i n m t : Nat} (hx : S.av x = some (.p i 0)) (hy : S.av y = some (.v (wv n))) (hb : S.blk i = some ⟨wvc m, t⟩) :
    OpOK Try.prog F ops o S { val := .v undef, wr := some (i, ⟨wvc n, t⟩), rd := [i] } := ok_store_whole hw ho hx hy hb sz53 (size_wvc n) (one_wvc n) (size_wvc m)
theorem o_alloc53 (i : Nat) (hw : want ops S o = some true) (ho : o.op = .alloc 53) : OpOK Try.prog F ops o S { val := .p i 0, new := some (i, ⟨wvc 0, 53⟩) } := ok_alloc i hw ho zero53
theorem o_box53 (i : Nat) (hw : want ops S o = some true) {x : Operand} (ho : o.op = .box 53 x) {n : Nat} (hx : S.av x = some (.v (wv n))) : OpOK Try.prog F ops o S { val := .p i 0, new := some (i, ⟨wvc n, 53⟩) } := ok_box i hw ho hx
theorem o_hi (hw : want ops S o = some true) {x : Operand} (ho : o.op = .fieldAddr 53 x 0) {i off : Nat} (hx : S.av x = some (.p i off)) : OpOK Try.prog F ops o S { val := .p i off } := by
  have hf := fd53_0
  cases hd : (Try.prog.fieldsOf 53)[0]? with
  | none => rw [hd] at hf; cases hf
  | some fd =>
    rw [hd] at hf
    simp only [Option.map_some, Option.some.injEq, Prod.mk.injEq] at hf
    have := ok_field (F := F) hw ho hx st53 hd (by rw [hf.1]; exact sz39) (by decide)
    rwa [hf.2] at this
theorem o_lo (hw : want ops S o = some true) {x : Operand} (ho : o.op = .fieldAddr 53 x 1) {i off : Nat} (hx : S.av x = some (.p i off)) : OpOK Try.prog F ops o S { val := .p i (off + 1) } := by
  have hf := fd53_1
  cases hd : (Try.prog.fieldsOf 53)[1]? with
  | none => rw [hd] at hf; cases hf
  | some fd =>
    rw [hd] at hf
    simp only [Option.map_some, Option.some.injEq, Prod.mk.injEq] at hf
    have := ok_field (F := F) hw ho hx st53 hd (by rw [hf.1]; exact sz39) (by decide)
    rwa [hf.2] at this
theorem o_hi39 (hw : want ops S o = some true) {x : Operand} (ho : o.op = .load 39 x) {i n t : Nat} (hx : S.av x = some (.p i 0)) (hb : S.blk i = some ⟨wvc n, t⟩) :
    OpOK Try.prog F ops o S { val := .v (.int .u64 ((n / 18446744073709551616 : Nat) : Int)), rd := [i] } := ok_load_cell hw ho hx hb one39 rfl
theorem o_lo39 (hw : want ops S o = some true) {x : Operand} (ho : o.op = .load 39 x) {i n t : Nat} (hx : S.av x = some (.p i 1)) (hb : S.blk i = some ⟨wvc n, t⟩) :
    OpOK Try.prog F ops o S { val := .v (.int .u64 ((n % 18446744073709551616 : Nat) : Int)), rd := [i] } := ok_load_cell hw ho hx hb one39 rfl
theorem o_extract (hw : want ops S o = some true) {x : Operand} {ix : Nat} (ho : o.op = .extract x ix) {vs : Array Value} {v : Value} (hx : S.av x = some (.v (.tuple vs))) (hv : vs[ix]? = some v) :
    OpOK P F ops o S { val := .v v } :=
  ok_value hw fun ρ a w h1 _ _ => by
    have e1 := h1 x (by simp [ho, Op.operands]) _ hx
    simp [execOp, ho, e1, Instr.extract, hv]
theorem o_build53 (hw : want ops S o = some true) {x y : Operand} (ho : o.op = .build 53 #[(0, x), (1, y)]) {a b n : Nat} (hx : S.av x = some (.v (.int .u64 a))) (hy : S.av y = some (.v (.int .u64 b)))
    (ha : n / 18446744073709551616 = a) (hb : n % 18446744073709551616 = b) : OpOK Try.prog F ops o S { val := .v (wv n) } :=
  ok_value hw fun ρ A w h1 _ _ => by
    have e1 := h1 x (by simp [ho, Op.operands]) _ hx
    have e2 := h1 y (by simp [ho, Op.operands]) _ hy
    have hb' : (Instr.build 53 #[(0, .int .u64 a), (1, .int .u64 b)]).run Try.prog w = .ok (.agg #[.int .u64 a, .int .u64 b]) w := by kernel_rfl
    subst ha; subst hb
    simp [execOp, ho, e1, e2]
    rw [show (Value.int .u64 ((n : Int) / 18446744073709551616)) = .int .u64 ((n / 18446744073709551616 : Nat) : Int) from rfl, show (Value.int .u64 ((n : Int) % 18446744073709551616)) = .int .u64 ((n % 18446744073709551616 : Nat) : Int) from rfl, hb']
    rfl
/-- bits.Add64, which the model runs by itself -/
theorem o_add64x (hw : want ops S o = some true) {x y c : Operand} {ts : Array TypeId} (ho : o.op = .call { callee := .value (.func 63), args := #[x, y, c], argTypes := ts }) {a b k : Nat}
    (hx : S.av x = some (.v (.int .u64 a))) (hy : S.av y = some (.v (.int .u64 b))) (hc : S.av c = some (.v (.int .u64 k))) (hk : k ≤ 1) :
    OpOK Try.prog F ops o S { val := .v (.tuple #[.int .u64 (((a + b + k) % 18446744073709551616 : Nat) : Int), .int .u64 (((a + b + k) / 18446744073709551616 : Nat) : Int)]) } :=
  ok_value hw fun ρ A w h1 _ _ => by
    have e1 := h1 x (by simp [ho, Op.operands, Call.operands]) _ hx
    have e2 := h1 y (by simp [ho, Op.operands, Call.operands]) _ hy
    have e3 := h1 c (by simp [ho, Op.operands, Call.operands]) _ hc
    have hr : (callFunc 63 #[.int .u64 a, .int .u64 b, .int .u64 k]).run Try.prog w = .ok (.value (.tuple #[.int .u64 (((a + b + k) % 18446744073709551616 : Nat) : Int), .int .u64 (((a + b + k) / 18446744073709551616 : Nat) : Int)])) w := by
      rw [run_callFunc_extern Try.func63 (by kernel_rfl) (by kernel_rfl) (by kernel_rfl) (e := add64Entry) (by kernel_rfl), run_add64 a b k (by omega) (by omega) (by omega) (by omega)]
      rfl
    have hf : A.eval (.func 63) = .func (.func 63) #[] #[] := rfl
    simp only [execOp, ho, resolve, hf, Deferred.ofValue, invoke, Sem.run_bind, Sem.run_pure, Result.andThen_ok, List.map_toArray, List.map_cons, List.map_nil, e1, e2, e3, AV.to_v, Array.append_empty, Array.empty_append]
    exact hr
end
theorem Rep.result_tmp2 {P : Program} {N : Nat} {S : St} {ρ : Nat → Nat} {F : Fr} {a : Act} {w : World} (h : Rep N S ρ F a w) {fn : Func} {p q : Tmp} {u v : Value} {R : Ending → World → Prop}
    (hfn : fn.results = #[.tmp p, .tmp q]) (hs : S.slot p = some (.v u)) (ht : S.slot q = some (.v v)) (hR : R (.returned (.tuple #[u, v])) w) : bodyPost P fn R .ret a w := by
  refine ⟨h.defers, .tuple #[u, v], ?_, hR⟩
  have hp := h.slots _ _ hs
  have hq := h.slots _ _ ht
  simp [results, hfn, hp, hq]

theorem r_mul64w {P : Program} {t : TypeId} {a b : Nat} (w : World) : (binOp .mul t (.int .u64 a) (.int .u64 b)).run P w = .ok (.int .u64 ((a * b % 18446744073709551616 : Nat) : Int)) w := by
  show Result.ok (Value.int .u64 (IntKind.u64.wrap ((a : Int) * b))) w = _
  rw [IntKind.wrap_u64, ← Int.natCast_mul]; congr 2

theorem mul64_any (x y : Nat) (hx : x < 18446744073709551616) (hy : y < 18446744073709551616) (w : World) : Calls Try.prog 59 #[.int .u64 x, .int .u64 y] w fun e w' =>
    e = .returned (.tuple #[.int .u64 ((x * y / 18446744073709551616 : Nat) : Int), .int .u64 ((x * y % 18446744073709551616 : Nat) : Int)]) ∧ Below w.heap.size w w' := by
  have b1 : x / 4294967296 ≤ 4294967295 := by omega
  have b2 : y / 4294967296 ≤ 4294967295 := by omega
  have p00 := mul32 (a := x % 4294967296) (b := y % 4294967296) (by omega) (by omega)
  have p10 := mul32 (a := x / 4294967296) (b := y % 4294967296) b1 (by omega)
  have p01 := mul32 (a := x % 4294967296) (b := y / 4294967296) (by omega) b2
  have p11 := mul32 (a := x / 4294967296) (b := y / 4294967296) b1 b2
  have hhi := mul_hi x y
  have hlt : x * y / 18446744073709551616 < 18446744073709551616 := by
    rw [Nat.div_lt_iff_lt_mul (by decide)]
    exact Nat.mul_lt_mul'' hx hy
  go_enter Try.func59, Try.ntmps59
  have h := Rep.start (N := 51) [.int .u64 x, .int .u64 y] [undef, undef, undef, undef, undef, undef, undef, undef, undef, undef, undef, undef, undef, undef, undef, undef, undef, undef, undef, undef, undef, undef, undef, undef, undef, undef, undef, undef, undef, undef, undef, undef, undef, undef, undef, undef, undef, undef, undef, undef, undef, undef, undef, undef, undef, undef, undef, undef, undef] w rfl
  apply seq_dag hmix h
  case hw =>
    apply Walk.cons
    · exact ok_assign rfl rfl rfl
    apply Walk.cons
    · exact ok_assign rfl rfl rfl
    exact Walk.nil _
  case hck => kernel_rfl
  case hQ =>
    intro ρ a w1 h
    apply seq_dag hmix h
    case hw =>
      apply Walk.cons
      · exact ok_move rfl rfl rfl
      apply Walk.cons
      · exact o_bin rfl rfl rfl rfl (r_and (u64_and32 x hx))
      apply Walk.cons
      · exact ok_assign rfl rfl rfl
      exact Walk.nil _
    case hck => kernel_rfl
    case hQ =>
      intro ρ a w1 h
      apply seq_dag hmix h
      case hw =>
        apply Walk.cons
        · exact ok_move rfl rfl rfl
        apply Walk.cons
        · exact o_bin rfl rfl rfl rfl (r_shr64 _ 32 .u64 (by decide))
        apply Walk.cons
        · exact ok_assign rfl rfl rfl
        exact Walk.nil _
      case hck => kernel_rfl
      case hQ =>
        intro ρ a w1 h
        apply seq_dag hmix h
        case hw =>
          apply Walk.cons
          · exact ok_move rfl rfl rfl
          apply Walk.cons
          · exact o_bin rfl rfl rfl rfl (r_and (u64_and32 y hy))
          apply Walk.cons
          · exact ok_assign rfl rfl rfl
          exact Walk.nil _
        case hck => kernel_rfl
        case hQ =>
          intro ρ a w1 h
          apply seq_dag hmix h
          case hw =>
            apply Walk.cons
            · exact ok_move rfl rfl rfl
            apply Walk.cons
            · exact o_bin rfl rfl rfl rfl (r_shr64 _ 32 .u64 (by decide))
            apply Walk.cons
            · exact ok_assign rfl rfl rfl
            exact Walk.nil _
          case hck => kernel_rfl
          case hQ =>
            intro ρ a w1 h
            apply seq_dag hmix h
            case hw =>
              apply Walk.cons
              · exact ok_move rfl rfl rfl
              apply Walk.cons
              · exact ok_move rfl rfl rfl
              apply Walk.cons
              · exact o_bin rfl rfl rfl rfl (r_mul64 (a := x % 4294967296) (b := y % 4294967296) (by omega))
              apply Walk.cons
              · exact ok_assign rfl rfl rfl
              exact Walk.nil _
            case hck => kernel_rfl
            case hQ =>
              intro ρ a w1 h
              apply seq_dag hmix h
              case hw =>
                apply Walk.cons
                · exact ok_move rfl rfl rfl
                apply Walk.cons
                · exact ok_move rfl rfl rfl
                apply Walk.cons
                · exact o_bin rfl rfl rfl rfl (r_mul64 (a := x / 4294967296) (b := y % 4294967296) (by omega))
                apply Walk.cons
                · exact ok_move rfl rfl rfl
                apply Walk.cons
                · exact o_bin rfl rfl rfl rfl (r_shr64 _ 32 .u64 (by decide))
                apply Walk.cons
                · exact o_bin rfl rfl rfl rfl (r_add64 (a := x / 4294967296 * (y % 4294967296)) (b := x % 4294967296 * (y % 4294967296) / 4294967296) (by omega))
                apply Walk.cons
                · exact ok_assign rfl rfl rfl
                exact Walk.nil _
              case hck => kernel_rfl
              case hQ =>
                intro ρ a w1 h
                apply seq_dag hmix h
                case hw =>
                  apply Walk.cons
                  · exact ok_move rfl rfl rfl
                  apply Walk.cons
                  · exact o_bin rfl rfl rfl rfl (r_and (u64_and32 (x / 4294967296 * (y % 4294967296) + x % 4294967296 * (y % 4294967296) / 4294967296) (by omega)))
                  apply Walk.cons
                  · exact ok_assign rfl rfl rfl
                  exact Walk.nil _
                case hck => kernel_rfl
                case hQ =>
                  intro ρ a w1 h
                  apply seq_dag hmix h
                  case hw =>
                    apply Walk.cons
                    · exact ok_move rfl rfl rfl
                    apply Walk.cons
                    · exact o_bin rfl rfl rfl rfl (r_shr64 _ 32 .u64 (by decide))
                    apply Walk.cons
                    · exact ok_assign rfl rfl rfl
                    exact Walk.nil _
                  case hck => kernel_rfl
                  case hQ =>
                    intro ρ a w1 h
                    apply seq_dag hmix h
                    case hw =>
                      apply Walk.cons
                      · exact ok_move rfl rfl rfl
                      apply Walk.cons
                      · exact ok_move rfl rfl rfl
                      apply Walk.cons
                      · exact ok_move rfl rfl rfl
                      apply Walk.cons
                      · exact o_bin rfl rfl rfl rfl (r_mul64 (a := x % 4294967296) (b := y / 4294967296) (by omega))
                      apply Walk.cons
                      · exact o_bin rfl rfl rfl rfl (r_add64 (a := (x / 4294967296 * (y % 4294967296) + x % 4294967296 * (y % 4294967296) / 4294967296) % 4294967296) (b := x % 4294967296 * (y / 4294967296)) (by omega))
                      apply Walk.cons
                      · exact ok_assign rfl rfl rfl
                      exact Walk.nil _
                    case hck => kernel_rfl
                    case hQ =>
                      intro ρ a w1 h
                      apply seq_dag hmix h
                      case hw =>
                        apply Walk.cons
                        · exact ok_move rfl rfl rfl
                        apply Walk.cons
                        · exact ok_move rfl rfl rfl
                        apply Walk.cons
                        · exact o_bin rfl rfl rfl rfl (r_mul64 (a := x / 4294967296) (b := y / 4294967296) (by omega))
                        apply Walk.cons
                        · exact ok_move rfl rfl rfl
                        apply Walk.cons
                        · exact o_bin rfl rfl rfl rfl (r_add64 (a := x / 4294967296 * (y / 4294967296)) (b := (x / 4294967296 * (y % 4294967296) + x % 4294967296 * (y % 4294967296) / 4294967296) / 4294967296) (by omega))
                        apply Walk.cons
                        · exact ok_move rfl rfl rfl
                        apply Walk.cons
                        · exact o_bin rfl rfl rfl rfl (r_shr64 _ 32 .u64 (by decide))
                        apply Walk.cons
                        · exact o_bin rfl rfl rfl rfl (r_add64 (a := x / 4294967296 * (y / 4294967296) + (x / 4294967296 * (y % 4294967296) + x % 4294967296 * (y % 4294967296) / 4294967296) / 4294967296) (b := ((x / 4294967296 * (y % 4294967296) + x % 4294967296 * (y % 4294967296) / 4294967296) % 4294967296 + x % 4294967296 * (y / 4294967296)) / 4294967296) (by rw [hhi]; exact hlt))
                        apply Walk.cons
                        · exact ok_assign rfl rfl rfl
                        exact Walk.nil _
                      case hck => kernel_rfl
                      case hQ =>
                        intro ρ a w1 h
                        apply seq_dag hmix h
                        case hw =>
                          apply Walk.cons
                          · exact ok_move rfl rfl rfl
                          apply Walk.cons
                          · exact ok_move rfl rfl rfl
                          apply Walk.cons
                          · exact o_bin rfl rfl rfl rfl (r_mul64w (a := x) (b := y))
                          apply Walk.cons
                          · exact ok_assign rfl rfl rfl
                          exact Walk.nil _
                        case hck => kernel_rfl
                        case hQ =>
                          intro ρ a w1 h
                          refine wp_ret ?_
                          exact h.result_tmp2 Try.results59 rfl rfl ⟨by rw [← hhi], h.below⟩
end Go.Proofs.Ytnbdeajjfhlmnaa
