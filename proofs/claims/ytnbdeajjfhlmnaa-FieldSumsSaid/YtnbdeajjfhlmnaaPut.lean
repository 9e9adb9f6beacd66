/-
  field.put: eight bytes of a word, written into an array.
-/
import Derived.Test.YtnbdeajjfhlmnaaLoad
namespace Go.Proofs.Ytnbdeajjfhlmnaa
open Go.RowKit

/-- the array after k bytes -/
def putTo (n at_ v : Nat) : Nat → Nat
  | 0 => n
  | k + 1 => setByte (putTo n at_ v k) (at_ + k) (v / 256 ^ k % 256)

theorem ok_nilCheck {P : Program} {F : Fr} {ops : Array Oper} {S : St} {o : Oper} (hw : want ops S o = some true) {x : Operand} (ho : o.op = .nilCheck x) {i off : Nat} (hx : S.av x = some (.p i off)) : OpOK P F ops o S { val := .p i off } :=
  ok_value hw fun ρ a w h1 _ _ => by
    have e1 := h1 x (by simp [ho, Op.operands]) _ hx
    simp [execOp, ho, e1]

def putS (at_ v n : Nat) (k : Nat) : St := ⟨[(0, .p 0 0), (1, .v (.int .i64 at_)), (2, .v (.int .u64 v)), (7, .v (.int .i64 k))], [(0, ⟨bvc (putTo n at_ v k), 24⟩)]⟩

theorem put_shr (v k : Nat) (hk : k < 8) (w : World) : (binOp .shr 39 (.int .u64 v) (.int .i64 ((8 * k : Nat) : Int))).run Try.prog w = .ok (.int .u64 ((v / 256 ^ k : Nat) : Int)) w := by
  have := r_shr64 (P := Try.prog) (t := 39) v (8 * k) .i64 (by omega) w
  rwa [show (2 : Nat) ^ (8 * k) = 256 ^ k by rw [Nat.pow_mul]] at this
theorem put_conv (x : Nat) : IntKind.u8.wrap (x : Int) = ((x % 256 : Nat) : Int) := by rw [IntKind.wrap_u8']; rfl

theorem put_any (b n at_ v : Nat) (w : World) (hb : w.heap[b]? = some (Blk.obj ⟨bvc n, 24⟩)) (hat : at_ ≤ 24) :
    Calls Try.prog 53 #[.pointer (some ⟨b, 0, none⟩), .int .i64 at_, .int .u64 v] w fun e w' => e = .returned (.tuple #[]) ∧ Wrote w w' b ⟨bvc (putTo n at_ v 8), 24⟩ := by
  go_enter Try.func53, Try.ntmps53
  have h := Rep.start1 (N := 22) b 0 ⟨bvc n, 24⟩ [.int .i64 at_, .int .u64 v] [undef, undef, undef, undef, undef, undef, undef, undef, undef, undef, undef, undef, undef, undef, undef, undef, undef, undef, undef] w hb rfl
  apply seq_dag' hmix h
  case hw =>
    apply Walk.cons
    · exact ok_move rfl rfl rfl
    exact Walk.nil _
  case hck => kernel_rfl
  case hQ =>
    intro ρ a w1 hag h
    have h := h.plain (putS at_ v n 0) ⟨rfl, rfl, rfl, rfl, trivial⟩ ⟨rfl, trivial⟩ rfl
    refine wp_block ?_
    refine rep_loop' (fun ρ => ρ 0 = b) 8 (putS at_ v n) (hag 0 _ rfl) h ?_
    intro k ρ a w hk hz h
    by_cases hlt : k < 8
    · apply seq_dag' hmix h
      case hw =>
        apply Walk.cons
        · exact o_bin rfl rfl rfl rfl (r_lss (decide_eq_true hlt))
        exact Walk.nil _
      case hck => kernel_rfl
      case hQ =>
        intro ρ a w1 hag1 h
        refine go_on h rfl ?_
        refine wp_seq (wp_block ?_)
        apply seq_dag' hmix h
        case hw =>
          apply Walk.cons
          · exact ok_move rfl rfl rfl
          apply Walk.cons
          · exact ok_assign rfl rfl rfl
          exact Walk.nil _
        case hck => kernel_rfl
        case hQ =>
          intro ρ a w2 hag2 h
          apply region_dag' hmix h
          case hw =>
            apply Walk.cons
            · exact ok_move rfl rfl rfl
            apply Walk.cons
            · exact ok_move rfl rfl rfl
            apply Walk.cons
            · exact ok_move rfl rfl rfl
            apply Walk.cons
            · exact o_bin rfl rfl rfl rfl (r_addi (a := at_) (b := k) (by omega))
            apply Walk.cons
            · exact ok_move rfl rfl rfl
            apply Walk.cons
            · exact ok_move rfl rfl rfl
            apply Walk.cons
            · exact o_bin rfl rfl rfl rfl (r_muli (a := 8) (b := k) (by omega))
            apply Walk.cons
            · exact o_bin rfl rfl rfl rfl (put_shr v k hlt)
            apply Walk.cons
            · exact o_conv rfl rfl rfl (by kernel_rfl) Try.underlying5 (put_conv (v / 256 ^ k))
            apply Walk.cons
            · exact ok_nilCheck rfl rfl rfl
            apply Walk.cons
            · exact o_at24 rfl rfl rfl rfl (by omega)
            apply Walk.cons
            · exact o_store5 rfl rfl rfl rfl rfl (by omega) (Nat.mod_lt _ (by decide))
            exact Walk.nil _
          case hck => kernel_rfl
          case hQ =>
            intro ρ a w3 hag3 h
            refine Exit.block_normal (Exit.then_normal ?_)
            apply region_dag' hmix h
            case hw =>
              apply Walk.cons
              · exact o_bin rfl rfl rfl rfl (r_addi (a := k) (b := 1) (by omega))
              apply Walk.cons
              · exact ok_move rfl rfl rfl
              exact Walk.nil _
            case hck => kernel_rfl
            case hQ =>
              intro ρ a w4 hag4 h
              refine ⟨ρ, hlt, ?_, h.plain (putS at_ v n (k + 1)) ⟨rfl, rfl, rfl, rfl, trivial⟩ ⟨rfl, trivial⟩ rfl⟩
              rw [hag4 0 _ rfl, hag3 0 _ rfl, hag2 0 _ rfl, hag1 0 _ rfl, hz]
    · obtain rfl : k = 8 := by omega
      apply seq_dag' hmix h
      case hw =>
        apply Walk.cons
        · exact o_bin rfl rfl rfl rfl (r_lss (decide_eq_false hlt))
        exact Walk.nil _
      case hck => kernel_rfl
      case hQ =>
        intro ρ a w1 hag1 h
        refine leave h rfl ?_
        refine ⟨h.defers, _, ?_, rfl, h.wrote ((hag1 0 _ rfl).trans hz) rfl⟩
        simp [results, Try.results53]
end Go.Proofs.Ytnbdeajjfhlmnaa
