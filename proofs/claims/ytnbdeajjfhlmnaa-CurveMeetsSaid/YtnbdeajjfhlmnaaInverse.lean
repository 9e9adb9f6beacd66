/-
  aditlaw01.FieldInverse: what it hands back is true, for any two numbers of 32 bytes.
-/
import Derived.Test.YtnbdeajjfhlmnaaRefs
import Derived.Test.YtnbdeajjfhlmnaaPrimeP
namespace Go.Proofs.Ytnbdeajjfhlmnaa
open Go.RowKit

theorem pp_prime : Prm pp := by rw [pp_lit]; exact prm_57896044618658097711785492504343953926634992332820282019728792003956564819949
def invP (n : Nat) : Nat := powP n (pp - 2)
theorem invP_lt (n : Nat) : invP n < 2 ^ 256 := pp_lt _
theorem pp_ge : 2 ≤ pp := pp_prime.1
theorem inv_mul {n : Nat} (h : n % pp ≠ 0) : n * invP n % pp = 1 := by
  have hd : ¬ pp ∣ n := fun hd => h (Nat.mod_eq_zero_of_dvd hd)
  have := pp_prime.fermat1 hd
  rw [invP, powP, Nat.mul_mod_mod, Nat.mul_comm, ← Nat.pow_succ, show (pp - 2).succ = pp - 1 by have := pp_ge; omega]
  exact this
theorem inv_zero {n : Nat} (h : n % pp = 0) : invP n = 0 := by
  rw [invP, powP, Nat.pow_mod, h, Nat.zero_pow (by rw [pp_lit]; decide), Nat.zero_mod]
theorem pow_pp {n : Nat} (h : n % pp ≠ 0) : powP n (pp - 2 + 1) = 1 := by
  rw [powP, Nat.pow_succ, Nat.mul_comm]
  have := inv_mul h
  rwa [invP, powP, Nat.mul_mod_mod] at this
/-- two that have the same product with a number that is not nothing are the same -/
theorem cancel {n a b : Nat} (h : n % pp ≠ 0) (e : n * a % pp = n * b % pp) : a % pp = b % pp := by
  have h1 : ∀ x, invP n * (n * x) % pp = x % pp := fun x => by
    rw [← Nat.mul_assoc, Nat.mul_comm (invP n) n, ← Nat.mod_mul_mod, inv_mul h, Nat.one_mul]
  rw [← h1 a, ← h1 b, ← Nat.mul_mod_mod, e, Nat.mul_mod_mod]
theorem inv_ne {n : Nat} (h : n % pp ≠ 0) : invP n % pp ≠ 0 := fun h0 => by
  have h1 := inv_mul h
  rw [← Nat.mul_mod_mod, h0, Nat.mul_zero, Nat.zero_mod] at h1
  exact absurd h1 (by decide)
theorem inv_inv {n : Nat} (h : n % pp ≠ 0) : invP (invP n) = n % pp := by
  have h2 := inv_mul (inv_ne h)
  have h3 := inv_mul h
  have := cancel (inv_ne h) (a := invP (invP n)) (b := n) (by rw [h2, Nat.mul_comm, h3])
  rwa [show invP (invP n) % pp = invP (invP n) from Nat.mod_mod _ _] at this
theorem inv_two (a b : Nat) : invP a * invP b % pp = invP (a * b % pp) := by
  simp only [invP, powP]
  rw [← Nat.mul_mod, ← Nat.pow_mod, Nat.mul_pow]
theorem r_add8m {P : Program} {t : TypeId} {a b : Nat} (w : World) : (binOp .add t (.int .u8 a) (.int .u8 b)).run P w = .ok (.int .u8 (((a + b) % 256 : Nat) : Int)) w := by
  show Result.ok (Value.int .u8 (IntKind.u8.wrap ((a : Int) + b))) w = _
  rw [← Int.natCast_add, IntKind.wrap_u8']
  rfl
theorem lessN : setByte (pp - 2) 0 ((byteOf (pp - 2) 0 + 1) % 256) = pp - 2 + 1 := by decide +kernel
attribute [local irreducible] pp powP
set_option maxRecDepth 20000 in
set_option maxHeartbeats 1000000 in
theorem law9_any (a b : Nat) (ha : a < 2 ^ 256) (hb : b < 2 ^ 256) (w : World) : Calls Try.prog 9 #[bv a, bv b] w fun e w' => e = .returned (.bool true) ∧ Below w.heap.size w w' := by
  have hpp : pp - 2 + 1 < 2 ^ 256 := by rw [pp_lit]; decide
  have hz := @inv_zero a
  have hn1 := @inv_mul a
  have hn2 := @inv_inv a
  have hn3 := @pow_pp a
  have hab := inv_two a b
  simp only [invP] at hz hn1 hn2 hab
  go_enter Try.func9, Try.ntmps9
  have h := Rep.start (N := 64) [bv a, bv b] [undef, undef, undef, undef, undef, undef, undef, undef, undef, undef, undef, undef, undef, undef, undef, undef, undef, undef, undef, undef, undef, undef, undef, undef, undef, undef, undef, undef, undef, undef, undef, undef, undef, undef, undef, undef, undef, undef, undef, undef, undef, undef, undef, undef, undef, undef, undef, undef, undef, undef, undef, undef, undef, undef, undef, undef, undef, undef, undef, undef, undef, undef] w rfl
  apply seq_dag hmix h
  case hw =>
    apply Walk.cons
    · exact o_box24 2 rfl rfl rfl
    apply Walk.cons
    · exact o_box24 3 rfl rfl rfl
    apply Walk.cons
    · exact ok_assign rfl rfl rfl
    exact Walk.nil _
  case hck => kernel_rfl
  case hQ =>
    intro ρ A w1 h
    apply seq_dag hmix h
    case hw =>
      apply Walk.cons
      · exact o_built rfl rfl (by kernel_rfl) (v := bv 0) (fun w => by kernel_rfl)
      apply Walk.cons
      · exact o_alloc24 5 rfl rfl
      apply Walk.cons
      · exact o_store24 rfl rfl rfl rfl rfl
      exact Walk.nil _
    case hck => kernel_rfl
    case hQ =>
      intro ρ A w1 h
      apply seq_dag hmix h
      case hw =>
        apply Walk.cons
        · exact o_built rfl rfl (by kernel_rfl) (v := bv 1) (fun w => by kernel_rfl)
        apply Walk.cons
        · exact o_alloc24 6 rfl rfl
        apply Walk.cons
        · exact o_store24 rfl rfl rfl rfl rfl
        exact Walk.nil _
      case hck => kernel_rfl
      case hQ =>
        intro ρ A w1 h
        apply seq_dag hmix h
        case hw =>
          apply Walk.cons
          · exact o_load24 rfl rfl rfl rfl
          apply Walk.cons
          · exact o_inv rfl rfl rfl (by first | assumption | exact pp_lt _ | exact subP_lt _ _ | exact powP_lt _ _ | decide +kernel)
          apply Walk.cons
          · exact o_alloc24 7 rfl rfl
          apply Walk.cons
          · exact o_store24 rfl rfl rfl rfl rfl
          exact Walk.nil _
        case hck => kernel_rfl
        case hQ =>
          intro ρ A w1 h
          by_cases h0 : a % pp = 0
          · refine wp_seq (wp_seq ?_)
            apply region_dag hmix h
            case hw =>
              apply Walk.cons
              · exact o_load24 rfl rfl rfl rfl
              apply Walk.cons
              · exact o_canon rfl rfl rfl (by first | assumption | exact pp_lt _ | exact subP_lt _ _ | exact powP_lt _ _ | decide +kernel)
              apply Walk.cons
              · exact o_load24 rfl rfl rfl rfl
              apply Walk.cons
              · exact o_eql24 rfl rfl rfl rfl (by first | assumption | exact pp_lt _ | exact subP_lt _ _ | exact powP_lt _ _ | decide +kernel) (by first | assumption | exact pp_lt _ | exact subP_lt _ _ | exact powP_lt _ _ | decide +kernel) (decide_eq_true h0)
              exact Walk.nil _
            case hck => kernel_rfl
            case hQ =>
              intro ρ A w1 h
              refine if_true' h rfl ?_
              apply seq_dag hmix h
              case hw =>
                apply Walk.cons
                · exact o_load24 rfl rfl rfl rfl
                apply Walk.cons
                · exact o_load24 rfl rfl rfl rfl
                apply Walk.cons
                · exact o_eql24 rfl rfl rfl rfl (by first | assumption | exact pp_lt _ | exact subP_lt _ _ | exact powP_lt _ _ | decide +kernel) (by first | assumption | exact pp_lt _ | exact subP_lt _ _ | exact powP_lt _ _ | decide +kernel) (decide_eq_true (hz h0))
                apply Walk.cons
                · exact ok_move rfl rfl rfl
                apply Walk.cons
                · exact ok_call_val rfl rfl fn20 [] rfl (rd := []) (fun ρ w _ _ => awake_any w)
                apply Walk.cons
                · exact ok_pick_true rfl rfl rfl rfl
                apply Walk.cons
                · exact ok_assign rfl rfl rfl
                exact Walk.nil _
              case hck => kernel_rfl
              case hQ =>
                intro ρ A w1 h
                refine wp_ret (Exit.then_ret ?_)
                exact h.result_tmp Try.results9 rfl ⟨rfl, h.below⟩
          · have e1 := hn1 h0
            have e2 := hn2 h0
            have e3 := hn3 h0
            refine wp_seq (wp_seq ?_)
            apply region_dag hmix h
            case hw =>
              apply Walk.cons
              · exact o_load24 rfl rfl rfl rfl
              apply Walk.cons
              · exact o_canon rfl rfl rfl (by first | assumption | exact pp_lt _ | exact subP_lt _ _ | exact powP_lt _ _ | decide +kernel)
              apply Walk.cons
              · exact o_load24 rfl rfl rfl rfl
              apply Walk.cons
              · exact o_eql24 rfl rfl rfl rfl (by first | assumption | exact pp_lt _ | exact subP_lt _ _ | exact powP_lt _ _ | decide +kernel) (by first | assumption | exact pp_lt _ | exact subP_lt _ _ | exact powP_lt _ _ | decide +kernel) (decide_eq_false h0)
              exact Walk.nil _
            case hck => kernel_rfl
            case hQ =>
              intro ρ A w1 h
              refine if_false' h rfl (wp_skip ?_)
              refine Exit.then_normal ?_
              apply seq_dag hmix h
              case hw =>
                apply Walk.cons
                · exact ok_call_val rfl rfl fn32 [] rfl (rd := []) (fun ρ w _ _ => less_any w)
                apply Walk.cons
                · exact o_alloc24 8 rfl rfl
                apply Walk.cons
                · exact o_store24 rfl rfl rfl rfl rfl
                exact Walk.nil _
              case hck => kernel_rfl
              case hQ =>
                intro ρ A w1 h
                apply seq_dag hmix h
                case hw =>
                  apply Walk.cons
                  · exact o_at24 rfl rfl rfl rfl (by decide)
                  apply Walk.cons
                  · exact o_load5 rfl rfl rfl rfl (k := 0) (by decide)
                  apply Walk.cons
                  · exact o_bin rfl rfl rfl rfl (r_add8m (a := byteOf (pp - 2) 0) (b := 1))
                  apply Walk.cons
                  · exact o_at24 rfl rfl rfl rfl (by decide)
                  apply Walk.cons
                  · exact o_store5 rfl rfl rfl rfl rfl (k := 0) (by decide) (Nat.mod_lt _ (by decide))
                  exact Walk.nil _
                case hck => kernel_rfl
                case hQ =>
                  intro ρ A w1 h
                  have h := h.plain ⟨[(2, .p 2 0), (3, .p 3 0), (5, .p 5 0), (6, .p 6 0), (7, .p 7 0), (8, .p 8 0)], [(2, ⟨bvc a, 24⟩), (3, ⟨bvc b, 24⟩), (5, ⟨bvc 0, 24⟩), (6, ⟨bvc 1, 24⟩), (7, ⟨bvc (powP a (pp - 2)), 24⟩), (8, ⟨bvc (setByte (pp - 2) 0 ((byteOf (pp - 2) 0 + 1) % 256)), 24⟩)]⟩ ⟨rfl, rfl, rfl, rfl, rfl, rfl, trivial⟩ ⟨rfl, rfl, rfl, rfl, rfl, rfl, trivial⟩ rfl
                  rw [lessN] at h
                  apply seq_dag hmix h
                  case hw =>
                    apply Walk.cons
                    · exact o_load24 rfl rfl rfl rfl
                    apply Walk.cons
                    · exact o_load24 rfl rfl rfl rfl
                    apply Walk.cons
                    · exact o_lit2 30 rfl rfl rfl rfl rfl
                    apply Walk.cons
                    · exact o_mul2 rfl rfl rfl rfl (by first | assumption | exact pp_lt _ | exact subP_lt _ _ | exact powP_lt _ _ | decide +kernel) (by first | assumption | exact pp_lt _ | exact subP_lt _ _ | exact powP_lt _ _ | decide +kernel)
                    apply Walk.cons
                    · exact o_load24 rfl rfl rfl rfl
                    apply Walk.cons
                    · exact o_eql24 rfl rfl rfl rfl (by first | assumption | exact pp_lt _ | exact subP_lt _ _ | exact powP_lt _ _ | decide +kernel) (by first | assumption | exact pp_lt _ | exact subP_lt _ _ | exact powP_lt _ _ | decide +kernel) (decide_eq_true e1)
                    apply Walk.cons
                    · exact ok_move rfl rfl rfl
                    apply Walk.cons
                    · exact o_load24 rfl rfl rfl rfl
                    apply Walk.cons
                    · exact o_inv rfl rfl rfl (by first | assumption | exact pp_lt _ | exact subP_lt _ _ | exact powP_lt _ _ | decide +kernel)
                    apply Walk.cons
                    · exact o_load24 rfl rfl rfl rfl
                    apply Walk.cons
                    · exact o_canon rfl rfl rfl (by first | assumption | exact pp_lt _ | exact subP_lt _ _ | exact powP_lt _ _ | decide +kernel)
                    apply Walk.cons
                    · exact o_eql24 rfl rfl rfl rfl (by first | assumption | exact pp_lt _ | exact subP_lt _ _ | exact powP_lt _ _ | decide +kernel) (by first | assumption | exact pp_lt _ | exact subP_lt _ _ | exact powP_lt _ _ | decide +kernel) (decide_eq_true e2)
                    apply Walk.cons
                    · exact ok_pick_true rfl rfl rfl rfl
                    apply Walk.cons
                    · exact ok_move rfl rfl rfl
                    apply Walk.cons
                    · exact o_load24 rfl rfl rfl rfl
                    apply Walk.cons
                    · exact o_load24 rfl rfl rfl rfl
                    apply Walk.cons
                    · exact o_pow rfl rfl rfl (by first | assumption | exact pp_lt _ | exact subP_lt _ _ | exact powP_lt _ _ | decide +kernel) (by first | assumption | exact pp_lt _ | exact subP_lt _ _ | exact powP_lt _ _ | decide +kernel)
                    apply Walk.cons
                    · exact o_load24 rfl rfl rfl rfl
                    apply Walk.cons
                    · exact o_eql24 rfl rfl rfl rfl (by first | assumption | exact pp_lt _ | exact subP_lt _ _ | exact powP_lt _ _ | decide +kernel) (by first | assumption | exact pp_lt _ | exact subP_lt _ _ | exact powP_lt _ _ | decide +kernel) (decide_eq_true e3)
                    apply Walk.cons
                    · exact ok_pick_true rfl rfl rfl rfl
                    apply Walk.cons
                    · exact ok_move rfl rfl rfl
                    apply Walk.cons
                    · exact o_load24 rfl rfl rfl rfl
                    apply Walk.cons
                    · exact o_load24 rfl rfl rfl rfl
                    apply Walk.cons
                    · exact o_inv rfl rfl rfl (by first | assumption | exact pp_lt _ | exact subP_lt _ _ | exact powP_lt _ _ | decide +kernel)
                    apply Walk.cons
                    · exact o_lit2 52 rfl rfl rfl rfl rfl
                    apply Walk.cons
                    · exact o_mul2 rfl rfl rfl rfl (by first | assumption | exact pp_lt _ | exact subP_lt _ _ | exact powP_lt _ _ | decide +kernel) (by first | assumption | exact pp_lt _ | exact subP_lt _ _ | exact powP_lt _ _ | decide +kernel)
                    apply Walk.cons
                    · exact o_load24 rfl rfl rfl rfl
                    apply Walk.cons
                    · exact o_load24 rfl rfl rfl rfl
                    apply Walk.cons
                    · exact o_lit2 56 rfl rfl rfl rfl rfl
                    apply Walk.cons
                    · exact o_mul2 rfl rfl rfl rfl (by first | assumption | exact pp_lt _ | exact subP_lt _ _ | exact powP_lt _ _ | decide +kernel) (by first | assumption | exact pp_lt _ | exact subP_lt _ _ | exact powP_lt _ _ | decide +kernel)
                    apply Walk.cons
                    · exact o_inv rfl rfl rfl (by first | assumption | exact pp_lt _ | exact subP_lt _ _ | exact powP_lt _ _ | decide +kernel)
                    apply Walk.cons
                    · exact o_eql24 rfl rfl rfl rfl (by first | assumption | exact pp_lt _ | exact subP_lt _ _ | exact powP_lt _ _ | decide +kernel) (by first | assumption | exact pp_lt _ | exact subP_lt _ _ | exact powP_lt _ _ | decide +kernel) (decide_eq_true hab)
                    apply Walk.cons
                    · exact ok_pick_true rfl rfl rfl rfl
                    apply Walk.cons
                    · exact ok_move rfl rfl rfl
                    apply Walk.cons
                    · exact ok_call_val rfl rfl fn20 [] rfl (rd := []) (fun ρ w _ _ => awake_any w)
                    apply Walk.cons
                    · exact ok_pick_true rfl rfl rfl rfl
                    apply Walk.cons
                    · exact ok_assign rfl rfl rfl
                    exact Walk.nil _
                  case hck => kernel_rfl
                  case hQ =>
                    intro ρ A w1 h
                    refine wp_ret ?_
                    exact h.result_tmp Try.results9 rfl ⟨rfl, h.below⟩
end Go.Proofs.Ytnbdeajjfhlmnaa
