/-
  aditref01: Canon, Plus, Times, Pow, Inv.
-/
import Derived.Test.YtnbdeajjfhlmnaaRest
namespace Go.Proofs.Ytnbdeajjfhlmnaa
open Go.RowKit

theorem lt40 {x : Nat} (h : x < 65536) : x < 1099511627776 := Nat.lt_trans h (by decide)
theorem valN_upd (f : Nat → Nat) (k d : Nat) : ∀ n, k < n → valN (updF f k (f k + d)) n = valN f n + d * 65536 ^ k := by
  intro n
  induction n with
  | zero => intro h; exact absurd h (Nat.not_lt_zero _)
  | succ n ih =>
    intro h
    by_cases hk : k = n
    · subst hk
      have e : valN (updF f k (f k + d)) k = valN f k := valN_congr k fun j hj => by simp [updF, Nat.ne_of_lt hj]
      rw [valN, valN, e]
      simp only [updF, if_true]
      rw [Nat.add_mul]
      omega
    · have e : updF f k (f k + d) n = f n := by simp [updF, Ne.symm hk]
      rw [valN, valN, ih (by omega), e]
      omega
theorem o_rest {F : Fr} {ops : Array Oper} {S : St} {o : Oper} (hw : want ops S o = some true) {args : Array Operand} {ts : Array TypeId} (ho : o.op = .call { callee := .value (.func 48), args := args, argTypes := ts }) {i len cap : Nat} {f : Nat → Nat}
    (hx : args.toList.mapM S.av = some [.s i 0 len cap]) (hb : S.blk i = some ⟨icv f cap, 3⟩) (h16 : 16 ≤ len) (h32 : len ≤ 32) (hcap : len ≤ cap) (hf : ∀ j, j < len → f j < 1099511627776) (hV : valN f len < 65536 ^ 32) {n : Nat} (hn : valN f len % pp = n) :
    OpOK Try.prog F ops o S { val := .v (bv n), rd := [i] } := by
  subst hn
  exact ok_call_val hw ho fn48 _ hx (rd := [i]) (fun ρ w hm _ => rest_any f len cap (ρ i) h16 h32 hf hV w (cells_icv (hm i (by simp) _ hb) hcap))
theorem p32 : (65536 : Nat) ^ 32 = 2 ^ 256 * 2 ^ 256 := by decide +kernel
theorem small32 {x : Nat} (h : x < 2 ^ 256) : x < 65536 ^ 32 := Nat.lt_trans h (by decide)

/-! ### Canon -/
theorem canon24_any (n : Nat) (hn : n < 2 ^ 256) (w : World) : Calls Try.prog 24 #[bv n] w fun e w' => e = .returned (bv (n % pp)) ∧ Below w.heap.size w w' := by
  go_enter Try.func24, Try.ntmps24
  have h := Rep.start (N := 6) [bv n] [undef, undef, undef, undef, undef] w rfl
  apply seq_dag hmix h
  case hw =>
    apply Walk.cons
    · exact o_box24 1 rfl rfl rfl
    apply Walk.cons
    · exact o_alloc24 2 rfl rfl
    exact Walk.nil _
  case hck => kernel_rfl
  case hQ =>
    intro ρ A w1 h
    apply seq_dag hmix h
    case hw =>
      apply Walk.cons
      · exact o_load24 rfl rfl rfl rfl
      apply Walk.cons
      · exact ok_call_new 4 rfl rfl fn49 [.v _] rfl (rd := []) (fun ρ w1 _ _ => load49_any n w1)
      apply Walk.cons
      · exact o_rest rfl rfl rfl rfl (by decide) (by decide) (by decide) (fun j _ => lt40 (limF_lt n 16 j)) (by rw [valN_limF hn]; exact small32 hn) (n := n % pp) (by rw [valN_limF hn])
      apply Walk.cons
      · exact o_store24 rfl rfl rfl rfl rfl
      exact Walk.nil _
    case hck => kernel_rfl
    case hQ =>
      intro ρ A w1 h
      refine wp_ret ?_
      exact h.result24 Try.results24 rfl rfl ⟨rfl, h.below⟩
theorem o_canon24 {F : Fr} {ops : Array Oper} {S : St} {o : Oper} (hw : want ops S o = some true) {args : Array Operand} {ts : Array TypeId} (ho : o.op = .call { callee := .value (.func 24), args := args, argTypes := ts }) {a : Nat}
    (hx : args.toList.mapM S.av = some [.v (bv a)]) (ha : a < 2 ^ 256) : OpOK Try.prog F ops o S { val := .v (bv (a % pp)) } :=
  ok_call_val hw ho (by kernel_rfl) _ hx (rd := []) (fun _ w _ _ => canon24_any a ha w)

/-! ### Plus -/
def plusF (n m k : Nat) : Nat → Nat := fun j => limF n 16 j + (if j < k then limF m 16 j else 0)
theorem plusF_step (n m k : Nat) : updF (plusF n m k) k (plusF n m k k + limF m 16 k) = plusF n m (k + 1) := by
  funext j
  simp only [updF, plusF]
  by_cases h : j = k
  · subst h; rw [if_pos rfl, if_neg (by omega), if_pos (by omega), Nat.add_zero]
  · by_cases h2 : j < k
    · rw [if_neg h, if_pos h2, if_pos (by omega)]
    · rw [if_neg h, if_neg h2, if_neg (by omega)]
theorem plusF_zero (n m : Nat) : plusF n m 0 = limF n 16 := by funext j; simp [plusF]
theorem plusF_lt (n m k j : Nat) : plusF n m k j < 131072 := by
  have := limF_lt n 16 j
  have := limF_lt m 16 j
  unfold plusF
  split <;> omega
theorem valN_sum (f g : Nat → Nat) (k : Nat) : valN (fun j => f j + g j) k = valN f k + valN g k := by
  induction k with
  | zero => rfl
  | succ k ih => rw [valN, valN, valN, ih, Nat.add_mul]; omega
theorem plusF_val {n m : Nat} (hn : n < 2 ^ 256) (hm : m < 2 ^ 256) : valN (plusF n m 16) 16 = n + m := by
  have e : valN (plusF n m 16) 16 = valN (fun j => limF n 16 j + limF m 16 j) 16 := valN_congr 16 fun j hj => by simp [plusF, hj]
  rw [e, valN_sum, valN_limF hn, valN_limF hm]
def plusS45 (n m k : Nat) : St := ⟨[(4, .p 4 0), (5, .s 9 0 16 16), (6, .s 11 0 16 16), (7, .v (.int .i64 k))], [(4, ⟨bvc 0, 24⟩), (9, ⟨icv (plusF n m k) 16, 3⟩), (11, ⟨icv (limF m 16) 16, 3⟩)]⟩
theorem plus45_any (n m : Nat) (hn : n < 2 ^ 256) (hm : m < 2 ^ 256) (w : World) : Calls Try.prog 45 #[bv n, bv m] w fun e w' => e = .returned (bv ((n + m) % pp)) ∧ Below w.heap.size w w' := by
  go_enter Try.func45, Try.ntmps45
  have h := Rep.start (N := 30) [bv n, bv m] [undef, undef, undef, undef, undef, undef, undef, undef, undef, undef, undef, undef, undef, undef, undef, undef, undef, undef, undef, undef, undef, undef, undef, undef, undef, undef, undef, undef] w rfl
  apply seq_dag hmix h
  case hw =>
    apply Walk.cons
    · exact o_box24 2 rfl rfl rfl
    apply Walk.cons
    · exact o_box24 3 rfl rfl rfl
    apply Walk.cons
    · exact o_alloc24 4 rfl rfl
    exact Walk.nil _
  case hck => kernel_rfl
  case hQ =>
    intro ρ A w1 h
    apply seq_dag hmix h
    case hw =>
      apply Walk.cons
      · exact o_load24 rfl rfl rfl rfl
      apply Walk.cons
      · exact ok_call_new 9 rfl rfl fn49 [.v _] rfl (rd := []) (fun ρ w1 _ _ => load49_any _ w1)
      apply Walk.cons
      · exact ok_assign rfl rfl rfl
      exact Walk.nil _
    case hck => kernel_rfl
    case hQ =>
      intro ρ A w1 h
      apply seq_dag hmix h
      case hw =>
        apply Walk.cons
        · exact o_load24 rfl rfl rfl rfl
        apply Walk.cons
        · exact ok_call_new 11 rfl rfl fn49 [.v _] rfl (rd := []) (fun ρ w1 _ _ => load49_any _ w1)
        apply Walk.cons
        · exact ok_assign rfl rfl rfl
        exact Walk.nil _
      case hck => kernel_rfl
      case hQ =>
        intro ρ A w1 h
        refine wp_seq ?_
        apply seq_dag hmix h
        case hw =>
          apply Walk.cons
          · exact ok_assign rfl rfl rfl
          exact Walk.nil _
        case hck => kernel_rfl
        case hQ =>
          intro ρ A w1 h
          have h := h.plain (plusS45 n m 0) ⟨rfl, rfl, rfl, rfl, trivial⟩ ⟨rfl, by rw [plusF_zero]; rfl, rfl, trivial⟩ rfl
          refine wp_block ?_
          refine rep_loop 16 (plusS45 n m) h ?_
          intro k ρ A w2 hk h
          have h1 := plusF_lt n m k k
          have h2 := limF_lt m 16 k
          by_cases hlt : k < 16
          · refine wp_seq ?_
            apply seq_dag hmix h
            case hw =>
              apply Walk.cons
              · exact ok_move rfl rfl rfl
              apply Walk.cons
              · exact o_bin rfl rfl rfl rfl (r_lss (a := k) (b := 16) (decide_eq_true hlt))
              exact Walk.nil _
            case hck => kernel_rfl
            case hQ =>
              intro ρ A w1 h
              refine if_true' h rfl (wp_skip ?_)
              refine Exit.then_normal ?_
              refine wp_seq (wp_block ?_)
              apply region_dag hmix h
              case hw =>
                apply Walk.cons
                · exact ok_move rfl rfl rfl
                apply Walk.cons
                · exact ok_move rfl rfl rfl
                apply Walk.cons
                · exact ok_move rfl rfl rfl
                apply Walk.cons
                · exact ok_move rfl rfl rfl
                apply Walk.cons
                · exact o_at46z rfl rfl rfl rfl (j := k) (by omega)
                apply Walk.cons
                · exact o_load3 rfl rfl rfl rfl (by omega)
                apply Walk.cons
                · exact ok_move rfl rfl rfl
                apply Walk.cons
                · exact ok_move rfl rfl rfl
                apply Walk.cons
                · exact o_at46z rfl rfl rfl rfl (j := k) (by omega)
                apply Walk.cons
                · exact o_load3 rfl rfl rfl rfl (by omega)
                apply Walk.cons
                · exact o_bin rfl rfl rfl rfl (r_addi (a := plusF n m k k) (b := limF m 16 k) (by omega))
                apply Walk.cons
                · exact o_at46z rfl rfl rfl rfl (j := k) (by omega)
                apply Walk.cons
                · exact o_store3 rfl rfl rfl rfl rfl (j := k) (by omega)
                exact Walk.nil _
              case hck => kernel_rfl
              case hQ =>
                intro ρ A w1 h
                refine Exit.block_normal (Exit.then_normal ?_)
                apply region_dag hmix h
                case hw =>
                  apply Walk.cons
                  · exact ok_move rfl rfl rfl
                  apply Walk.cons
                  · exact o_bin rfl rfl rfl rfl (r_addi (a := k) (b := 1) (by omega))
                  apply Walk.cons
                  · exact ok_assign rfl rfl rfl
                  exact Walk.nil _
                case hck => kernel_rfl
                case hQ =>
                  intro ρ A w1 h
                  exact ⟨_, hlt, h.plain (plusS45 n m (k + 1)) ⟨rfl, rfl, rfl, rfl, trivial⟩ ⟨rfl, by rw [← plusF_step]; rfl, rfl, trivial⟩ rfl⟩
          · obtain rfl : k = 16 := by omega
            refine wp_seq ?_
            apply seq_dag hmix h
            case hw =>
              apply Walk.cons
              · exact ok_move rfl rfl rfl
              apply Walk.cons
              · exact o_bin rfl rfl rfl rfl (r_lss (a := 16) (b := 16) (decide_eq_false hlt))
              exact Walk.nil _
            case hck => kernel_rfl
            case hQ =>
              intro ρ A w1 h
              refine if_false' h rfl (wp_exit (at_exit' ?_))
              refine Exit.then_normal ?_
              apply seq_dag hmix h
              case hw =>
                apply Walk.cons
                · exact ok_move rfl rfl rfl
                apply Walk.cons
                · exact o_rest rfl rfl rfl rfl (by decide) (by decide) (by decide) (fun j _ => Nat.lt_trans (plusF_lt n m 16 j) (by decide)) (by rw [plusF_val hn hm]; exact Nat.lt_trans (Nat.add_lt_add hn hm) (by decide)) (n := (n + m) % pp) (by rw [plusF_val hn hm])
                apply Walk.cons
                · exact o_store24 rfl rfl rfl rfl rfl
                exact Walk.nil _
              case hck => kernel_rfl
              case hQ =>
                intro ρ A w1 h
                refine wp_ret ?_
                exact h.result24 Try.results45 rfl rfl ⟨rfl, h.below⟩
theorem o_plus {F : Fr} {ops : Array Oper} {S : St} {o : Oper} (hw : want ops S o = some true) {args : Array Operand} {ts : Array TypeId} (ho : o.op = .call { callee := .value (.func 45), args := args, argTypes := ts }) {a b : Nat}
    (hx : args.toList.mapM S.av = some [.v (bv a), .v (bv b)]) (ha : a < 2 ^ 256) (hb : b < 2 ^ 256) : OpOK Try.prog F ops o S { val := .v (bv ((a + b) % pp)) } :=
  ok_call_val hw ho (by kernel_rfl) _ hx (rd := []) (fun _ w _ _ => plus45_any a b ha hb w)

/-! ### Times -/
def timS (n m : Nat) (x : (Nat → Nat) × Nat) : St := ⟨[(4, .p 4 0), (5, .s 11 0 16 16), (6, .s 13 0 16 16), (7, .s 14 0 31 31), (8, .v (.int .i64 x.2))], [(4, ⟨bvc 0, 24⟩), (11, ⟨icv (limF n 16) 16, 3⟩), (13, ⟨icv (limF m 16) 16, 3⟩), (14, ⟨icv x.1 31, 3⟩)]⟩
def timI (n m : Nat) (x : (Nat → Nat) × Nat) : Prop := x.2 ≤ 16 ∧ (∀ t, x.1 t ≤ x.2 * 68717379600) ∧ valN x.1 31 = valN (limF n 16) x.2 * m
def timT (n m i : Nat) (x : (Nat → Nat) × Nat) : St := ⟨[(4, .p 4 0), (5, .s 11 0 16 16), (6, .s 13 0 16 16), (7, .s 14 0 31 31), (8, .v (.int .i64 i)), (9, .v (.int .i64 x.2))], [(4, ⟨bvc 0, 24⟩), (11, ⟨icv (limF n 16) 16, 3⟩), (13, ⟨icv (limF m 16) 16, 3⟩), (14, ⟨icv x.1 31, 3⟩)]⟩
def timJ (n m i : Nat) (x : (Nat → Nat) × Nat) : Prop := x.2 ≤ 16 ∧ (∀ t, x.1 t ≤ i * 68717379600 + x.2 * 4294836225) ∧ valN x.1 31 = valN (limF n 16) i * m + limF n 16 i * 65536 ^ i * valN (limF m 16) x.2
theorem tim_ring (a p b q V Y : Nat) : V + a * p * Y + a * b * (p * q) = V + a * p * (Y + b * q) := by grind
set_option maxRecDepth 20000 in
theorem times46_any (n m : Nat) (hn : n < 2 ^ 256) (hm : m < 2 ^ 256) (w : World) : Calls Try.prog 46 #[bv n, bv m] w fun e w' => e = .returned (bv (n * m % pp)) ∧ Below w.heap.size w w' := by
  go_enter Try.func46, Try.ntmps46
  have h := Rep.start (N := 46) [bv n, bv m] [undef, undef, undef, undef, undef, undef, undef, undef, undef, undef, undef, undef, undef, undef, undef, undef, undef, undef, undef, undef, undef, undef, undef, undef, undef, undef, undef, undef, undef, undef, undef, undef, undef, undef, undef, undef, undef, undef, undef, undef, undef, undef, undef, undef] w rfl
  apply seq_dag hmix h
  case hw =>
    apply Walk.cons
    · exact o_box24 2 rfl rfl rfl
    apply Walk.cons
    · exact o_box24 3 rfl rfl rfl
    apply Walk.cons
    · exact o_alloc24 4 rfl rfl
    exact Walk.nil _
  case hck => kernel_rfl
  case hQ =>
    intro ρ A w1 h
    apply seq_dag hmix h
    case hw =>
      apply Walk.cons
      · exact o_load24 rfl rfl rfl rfl
      apply Walk.cons
      · exact ok_call_new 11 rfl rfl fn49 [.v _] rfl (rd := []) (fun ρ w1 _ _ => load49_any _ w1)
      apply Walk.cons
      · exact ok_assign rfl rfl rfl
      exact Walk.nil _
    case hck => kernel_rfl
    case hQ =>
      intro ρ A w1 h
      apply seq_dag hmix h
      case hw =>
        apply Walk.cons
        · exact o_load24 rfl rfl rfl rfl
        apply Walk.cons
        · exact ok_call_new 13 rfl rfl fn49 [.v _] rfl (rd := []) (fun ρ w1 _ _ => load49_any _ w1)
        apply Walk.cons
        · exact ok_assign rfl rfl rfl
        exact Walk.nil _
      case hck => kernel_rfl
      case hQ =>
        intro ρ A w1 h
        apply seq_dag hmix h
        case hw =>
          apply Walk.cons
          · exact o_make 14 rfl rfl (l := 31) (c := 31) rfl rfl (by decide) (by decide) (by decide)
          apply Walk.cons
          · exact ok_assign rfl rfl rfl
          exact Walk.nil _
        case hck => kernel_rfl
        case hQ =>
          intro ρ A w1 h
          refine wp_seq ?_
          apply seq_dag hmix h
          case hw =>
            apply Walk.cons
            · exact ok_assign rfl rfl rfl
            exact Walk.nil _
          case hck => kernel_rfl
          case hQ =>
            intro ρ A w1 h
            have h := h.plain (timS n m (fun _ => 0, 0)) ⟨rfl, rfl, rfl, rfl, rfl, trivial⟩ ⟨rfl, rfl, rfl, rfl, trivial⟩ rfl
            have hI : timI n m (fun _ => 0, 0) := ⟨by decide, fun _ => Nat.zero_le _, by rw [show valN (fun _ => 0) 31 = 0 by rfl, show valN (limF n 16) 0 = 0 from rfl, Nat.zero_mul]⟩
            refine wp_block ?_
            refine rep_loop_by (fun x => 16 - x.2) (timS n m) (timI n m) _ hI h ?_
            clear h hI
            rintro ⟨f, i⟩ ρ A w2 ⟨hi, hf, hV⟩ h
            simp only at hi hf hV
            change Rep 46 ⟨[(4, .p 4 0), (5, .s 11 0 16 16), (6, .s 13 0 16 16), (7, .s 14 0 31 31), (8, .v (.int .i64 i))], [(4, ⟨bvc 0, 24⟩), (11, ⟨icv (limF n 16) 16, 3⟩), (13, ⟨icv (limF m 16) 16, 3⟩), (14, ⟨icv f 31, 3⟩)]⟩ _ _ _ _ at h
            by_cases hlt : i < 16
            · refine wp_seq ?_
              apply seq_dag hmix h
              case hw =>
                apply Walk.cons
                · exact ok_move rfl rfl rfl
                apply Walk.cons
                · exact o_bin rfl rfl rfl rfl (r_lss (a := i) (b := 16) (decide_eq_true hlt))
                exact Walk.nil _
              case hck => kernel_rfl
              case hQ =>
                intro ρ A w1 h
                refine if_true' h rfl (wp_skip ?_)
                refine Exit.then_normal ?_
                refine wp_seq (wp_block ?_)
                refine wp_seq ?_
                apply region_dag hmix h
                case hw =>
                  apply Walk.cons
                  · exact ok_assign rfl rfl rfl
                  exact Walk.nil _
                case hck => kernel_rfl
                case hQ =>
                  intro ρ A w1 h
                  refine Exit.then_normal ?_
                  have h := h.plain (timT n m i (f, 0)) ⟨rfl, rfl, rfl, rfl, rfl, rfl, trivial⟩ ⟨rfl, rfl, rfl, rfl, trivial⟩ rfl
                  have hJ : timJ n m i (f, 0) := ⟨Nat.zero_le _, fun t => by show f t ≤ i * 68717379600 + 0 * 4294836225; rw [Nat.zero_mul, Nat.add_zero]; exact hf t, by simp only; rw [hV, show valN (limF m 16) 0 = 0 from rfl, Nat.mul_zero, Nat.add_zero]⟩
                  refine wp_block ?_
                  refine rep_loop_by (fun x => 16 - x.2) (timT n m i) (timJ n m i) _ hJ h ?_
                  clear h hJ
                  rintro ⟨f, j⟩ ρ A w3 ⟨hj, hf, hV⟩ h
                  simp only at hj hf hV
                  change Rep 46 ⟨[(4, .p 4 0), (5, .s 11 0 16 16), (6, .s 13 0 16 16), (7, .s 14 0 31 31), (8, .v (.int .i64 i)), (9, .v (.int .i64 j))], [(4, ⟨bvc 0, 24⟩), (11, ⟨icv (limF n 16) 16, 3⟩), (13, ⟨icv (limF m 16) 16, 3⟩), (14, ⟨icv f 31, 3⟩)]⟩ _ _ _ _ at h
                  have hli := limF_lt n 16 i
                  have hlj := limF_lt m 16 j
                  have hprod : limF n 16 i * limF m 16 j ≤ 4294836225 := Nat.mul_le_mul (show limF n 16 i ≤ 65535 by omega) (show limF m 16 j ≤ 65535 by omega)
                  have hfij := hf (i + j)
                  by_cases hjt : j < 16
                  · refine wp_seq ?_
                    apply seq_dag hmix h
                    case hw =>
                      apply Walk.cons
                      · exact ok_move rfl rfl rfl
                      apply Walk.cons
                      · exact o_bin rfl rfl rfl rfl (r_lss (a := j) (b := 16) (decide_eq_true hjt))
                      exact Walk.nil _
                    case hck => kernel_rfl
                    case hQ =>
                      intro ρ A w1 h
                      refine if_true' h rfl (wp_skip ?_)
                      refine Exit.then_normal ?_
                      refine wp_seq (wp_block ?_)
                      apply region_dag hmix h
                      case hw =>
                        apply Walk.cons
                        · exact ok_move rfl rfl rfl
                        apply Walk.cons
                        · exact ok_move rfl rfl rfl
                        apply Walk.cons
                        · exact ok_move rfl rfl rfl
                        apply Walk.cons
                        · exact o_bin rfl rfl rfl rfl (r_addi (a := i) (b := j) (by omega))
                        apply Walk.cons
                        · exact ok_move rfl rfl rfl
                        apply Walk.cons
                        · exact ok_move rfl rfl rfl
                        apply Walk.cons
                        · exact ok_move rfl rfl rfl
                        apply Walk.cons
                        · exact o_bin rfl rfl rfl rfl (r_addi (a := i) (b := j) (by omega))
                        apply Walk.cons
                        · exact o_at46z rfl rfl rfl rfl (j := i + j) (by omega)
                        apply Walk.cons
                        · exact o_load3 rfl rfl rfl rfl (by omega)
                        apply Walk.cons
                        · exact ok_move rfl rfl rfl
                        apply Walk.cons
                        · exact ok_move rfl rfl rfl
                        apply Walk.cons
                        · exact o_at46z rfl rfl rfl rfl (j := i) (by omega)
                        apply Walk.cons
                        · exact o_load3 rfl rfl rfl rfl (by omega)
                        apply Walk.cons
                        · exact ok_move rfl rfl rfl
                        apply Walk.cons
                        · exact ok_move rfl rfl rfl
                        apply Walk.cons
                        · exact o_at46z rfl rfl rfl rfl (j := j) (by omega)
                        apply Walk.cons
                        · exact o_load3 rfl rfl rfl rfl (by omega)
                        apply Walk.cons
                        · exact o_bin rfl rfl rfl rfl (r_muli (a := limF n 16 i) (b := limF m 16 j) (by omega))
                        apply Walk.cons
                        · exact o_bin rfl rfl rfl rfl (r_addi (a := f (i + j)) (b := limF n 16 i * limF m 16 j) (by omega))
                        apply Walk.cons
                        · exact o_at46z rfl rfl rfl rfl (j := i + j) (by omega)
                        apply Walk.cons
                        · exact o_store3 rfl rfl rfl rfl rfl (j := i + j) (by omega)
                        exact Walk.nil _
                      case hck => kernel_rfl
                      case hQ =>
                        intro ρ A w1 h
                        refine Exit.block_normal (Exit.then_normal ?_)
                        apply region_dag hmix h
                        case hw =>
                          apply Walk.cons
                          · exact ok_move rfl rfl rfl
                          apply Walk.cons
                          · exact o_bin rfl rfl rfl rfl (r_addi (a := j) (b := 1) (by omega))
                          apply Walk.cons
                          · exact ok_assign rfl rfl rfl
                          exact Walk.nil _
                        case hck => kernel_rfl
                        case hQ =>
                          intro ρ A w1 h
                          refine ⟨(updF f (i + j) (f (i + j) + limF n 16 i * limF m 16 j), j + 1), _, by simp only; omega, ⟨by simp only; omega, fun t => ?_, ?_⟩, h.plain (timT n m i (updF f (i + j) (f (i + j) + limF n 16 i * limF m 16 j), j + 1)) ⟨rfl, rfl, rfl, rfl, rfl, rfl, trivial⟩ ⟨rfl, rfl, rfl, rfl, trivial⟩ rfl⟩
                          · show updF f (i + j) (f (i + j) + limF n 16 i * limF m 16 j) t ≤ i * 68717379600 + (j + 1) * 4294836225
                            simp only [updF]
                            split
                            · rw [Nat.succ_mul, ← Nat.add_assoc]; exact Nat.add_le_add hfij hprod
                            · exact Nat.le_trans (hf t) (Nat.add_le_add_left (Nat.mul_le_mul_right _ (Nat.le_succ j)) _)
                          · simp only
                            rw [valN_upd f (i + j) _ 31 (by omega), hV, Nat.pow_add, tim_ring]
                            rfl
                  · obtain rfl : j = 16 := by omega
                    refine wp_seq ?_
                    apply seq_dag hmix h
                    case hw =>
                      apply Walk.cons
                      · exact ok_move rfl rfl rfl
                      apply Walk.cons
                      · exact o_bin rfl rfl rfl rfl (r_lss (a := 16) (b := 16) (decide_eq_false hjt))
                      exact Walk.nil _
                    case hck => kernel_rfl
                    case hQ =>
                      intro ρ A w1 h
                      refine if_false' h rfl (wp_exit (at_exit' ?_))
                      refine Exit.block_normal (Exit.then_normal ?_)
                      apply region_dag hmix h
                      case hw =>
                        apply Walk.cons
                        · exact ok_move rfl rfl rfl
                        apply Walk.cons
                        · exact o_bin rfl rfl rfl rfl (r_addi (a := i) (b := 1) (by omega))
                        apply Walk.cons
                        · exact ok_assign rfl rfl rfl
                        exact Walk.nil _
                      case hck => kernel_rfl
                      case hQ =>
                        intro ρ A w1 h
                        refine ⟨(f, i + 1), _, by simp only; omega, ⟨by simp only; omega, fun t => by show f t ≤ (i + 1) * 68717379600; rw [Nat.succ_mul]; exact hf t, ?_⟩, h.plain (timS n m (f, i + 1)) ⟨rfl, rfl, rfl, rfl, rfl, trivial⟩ ⟨rfl, rfl, rfl, rfl, trivial⟩ rfl⟩
                        simp only
                        rw [hV, valN_limF hm, valN, Nat.add_mul]
            · obtain rfl : i = 16 := by omega
              refine wp_seq ?_
              apply seq_dag hmix h
              case hw =>
                apply Walk.cons
                · exact ok_move rfl rfl rfl
                apply Walk.cons
                · exact o_bin rfl rfl rfl rfl (r_lss (a := 16) (b := 16) (decide_eq_false hlt))
                exact Walk.nil _
              case hck => kernel_rfl
              case hQ =>
                intro ρ A w1 h
                refine if_false' h rfl (wp_exit (at_exit' ?_))
                refine Exit.then_normal ?_
                rw [valN_limF hn] at hV
                apply seq_dag hmix h
                case hw =>
                  apply Walk.cons
                  · exact ok_move rfl rfl rfl
                  apply Walk.cons
                  · exact o_rest rfl rfl rfl rfl (by decide) (by decide) (by decide) (fun j _ => by have := hf j; omega) (by rw [hV, p32]; exact Nat.mul_lt_mul_of_lt_of_lt hn hm) (n := n * m % pp) (by rw [hV])
                  apply Walk.cons
                  · exact o_store24 rfl rfl rfl rfl rfl
                  exact Walk.nil _
                case hck => kernel_rfl
                case hQ =>
                  intro ρ A w1 h
                  refine wp_ret ?_
                  exact h.result24 Try.results46 rfl rfl ⟨rfl, h.below⟩
theorem o_times {F : Fr} {ops : Array Oper} {S : St} {o : Oper} (hw : want ops S o = some true) {args : Array Operand} {ts : Array TypeId} (ho : o.op = .call { callee := .value (.func 46), args := args, argTypes := ts }) {a b : Nat}
    (hx : args.toList.mapM S.av = some [.v (bv a), .v (bv b)]) (ha : a < 2 ^ 256) (hb : b < 2 ^ 256) : OpOK Try.prog F ops o S { val := .v (bv (a * b % pp)) } :=
  ok_call_val hw ho (by kernel_rfl) _ hx (rd := []) (fun _ w _ _ => times46_any a b ha hb w)

/-! ### Pow -/
def refT (n m : Nat) : Nat → Nat
  | 0 => 1
  | k + 1 => if bitN m (255 - k) = 1 then refT n m k * refT n m k % pp * n % pp else refT n m k * refT n m k % pp
theorem refT_lt (n m k : Nat) : refT n m k < 2 ^ 256 := by
  cases k with
  | zero => exact Nat.one_lt_two_pow (by decide)
  | succ k =>
    rw [refT]
    split <;> exact pp_lt _
theorem div_step (m k : Nat) (hk : k < 256) : m / 2 ^ (256 - (k + 1)) = 2 * (m / 2 ^ (256 - k)) + m / 2 ^ (255 - k) % 2 := by
  have e : 2 ^ (256 - k) = 2 ^ (255 - k) * 2 := by rw [← Nat.pow_succ]; congr 1; omega
  rw [show 256 - (k + 1) = 255 - k by omega, e, ← Nat.div_div_eq_div_mul]
  omega
theorem refT_eq (n m k : Nat) (hk : k ≤ 256) : refT n m k % pp = n ^ (m / 2 ^ (256 - k)) % pp ∨ m ≥ 2 ^ 256 := by
  by_cases hm : m < 2 ^ 256
  · left
    induction k with
    | zero => rw [refT, Nat.sub_zero, Nat.div_eq_of_lt hm, Nat.pow_zero]
    | succ k ih =>
      have hb := bitN_eq m (255 - k)
      have ih := ih (by omega)
      rw [div_step m k (by omega), refT, Nat.pow_add, Nat.two_mul, Nat.pow_add]
      by_cases h : bitN m (255 - k) = 1
      · rw [if_pos h, ← hb, h, Nat.pow_one, Nat.mod_mod, Nat.mod_mul_mod, Nat.mul_mod, Nat.mul_mod (refT n m k), ih, ← Nat.mul_mod (n ^ _), ← Nat.mul_mod]
      · have h0 : bitN m (255 - k) = 0 := by have : bitN m (255 - k) < 2 := Nat.mod_lt _ (by decide)
                                             omega
        rw [if_neg h, ← hb, h0, Nat.pow_zero, Nat.mul_one, Nat.mod_mod, Nat.mul_mod, ih, ← Nat.mul_mod]
  · right; omega
theorem refT_mod (n m : Nat) (hm : m < 2 ^ 256) : refT n m 256 = powP n m := by
  have h := refT_eq n m 256 (Nat.le_refl _)
  rcases h with h | h
  · rw [Nat.sub_self, Nat.pow_zero, Nat.div_one] at h
    rw [powP, ← h, refT]
    split <;> rw [Nat.mod_mod]
  · omega
def pow29S (n m k : Nat) : St := ⟨[(2, .p 2 0), (3, .p 3 0), (4, .p 4 0), (5, .p 5 0), (6, .v (.int .i64 ((255 : Int) - k)))], [(2, ⟨bvc n, 24⟩), (3, ⟨bvc m, 24⟩), (4, ⟨bvc 0, 24⟩), (5, ⟨bvc (refT n m k), 24⟩)]⟩
theorem r_geqI {P : Program} {t : TypeId} {k : IntKind} {a b : Int} {c : Bool} (h : decide (a ≥ b) = c) (w : World) : (binOp .geq t (.int k a) (.int k b)).run P w = .ok (.bool c) w := by
  subst h; simp [binOp, Op.intCmp]
theorem r_subI {P : Program} {t : TypeId} {a b c : Int} (h : IntKind.i64.wrap (a - b) = c) (w : World) : (binOp .sub t (.int .i64 a) (.int .i64 b)).run P w = .ok (.int .i64 c) w := by
  subst h; rfl
theorem pow29_any (n m : Nat) (hn : n < 2 ^ 256) (hm : m < 2 ^ 256) (w : World) : Calls Try.prog 29 #[bv n, bv m] w fun e w' => e = .returned (bv (powP n m)) ∧ Below w.heap.size w w' := by
  go_enter Try.func29, Try.ntmps29
  have h := Rep.start (N := 28) [bv n, bv m] [undef, undef, undef, undef, undef, undef, undef, undef, undef, undef, undef, undef, undef, undef, undef, undef, undef, undef, undef, undef, undef, undef, undef, undef, undef, undef] w rfl
  apply seq_dag hmix h
  case hw =>
    apply Walk.cons
    · exact o_box24 2 rfl rfl rfl
    apply Walk.cons
    · exact o_box24 3 rfl rfl rfl
    apply Walk.cons
    · exact o_alloc24 4 rfl rfl
    exact Walk.nil _
  case hck => kernel_rfl
  case hQ =>
    intro ρ A w1 h
    apply seq_dag hmix h
    case hw =>
      apply Walk.cons
      · exact o_built rfl rfl (by kernel_rfl) (v := bv 1) (fun w => by kernel_rfl)
      apply Walk.cons
      · exact o_alloc24 5 rfl rfl
      apply Walk.cons
      · exact o_store24 rfl rfl rfl rfl rfl
      exact Walk.nil _
    case hck => kernel_rfl
    case hQ =>
      intro ρ A w1 h
      refine wp_seq ?_
      apply seq_dag hmix h
      case hw =>
        apply Walk.cons
        · exact ok_assign rfl rfl rfl
        exact Walk.nil _
      case hck => kernel_rfl
      case hQ =>
        intro ρ A w1 h
        have h := h.plain (pow29S n m 0) ⟨rfl, rfl, rfl, rfl, rfl, trivial⟩ ⟨rfl, rfl, rfl, rfl, trivial⟩ rfl
        refine wp_block ?_
        refine rep_loop 256 (pow29S n m) h ?_
        intro k ρ A w2 hk h
        have hr := refT_lt n m k
        by_cases hlt : k < 256
        · obtain ⟨q, hq, rfl⟩ : ∃ q, q < 256 ∧ k = 255 - q := ⟨255 - k, by omega, by omega⟩
          have e255 : (255 : Int) - ((255 - q : Nat) : Int) = q := by omega
          have hbb := byteOf_lt m (q / 8)
          have hb2 : byteOf m (q / 8) / 2 ^ (q % 8) < 256 := Nat.lt_of_le_of_lt (Nat.div_le_self _ _) hbb
          have hqq : 255 - (255 - q) = q := by omega
          have h := h.plain ⟨[(2, .p 2 0), (3, .p 3 0), (4, .p 4 0), (5, .p 5 0), (6, .v (.int .i64 q))], [(2, ⟨bvc n, 24⟩), (3, ⟨bvc m, 24⟩), (4, ⟨bvc 0, 24⟩), (5, ⟨bvc (refT n m (255 - q)), 24⟩)]⟩ ⟨rfl, rfl, rfl, rfl, by rw [← e255]; rfl, trivial⟩ ⟨rfl, rfl, rfl, rfl, trivial⟩ rfl
          have hsq : refT n m (255 - q) * refT n m (255 - q) % pp < 2 ^ 256 := pp_lt _
          by_cases hbit : bitN m q = 1
          · refine wp_seq ?_
            apply seq_dag hmix h
            case hw =>
              apply Walk.cons
              · exact ok_move rfl rfl rfl
              apply Walk.cons
              · exact o_bin rfl rfl rfl rfl (r_geqI (a := (q : Int)) (b := 0) (decide_eq_true (by omega)))
              exact Walk.nil _
            case hck => kernel_rfl
            case hQ =>
              intro ρ A w1 h
              refine if_true' h rfl (wp_skip ?_)
              refine Exit.then_normal ?_
              refine wp_seq (wp_block ?_)
              apply seq_dag hmix h
              case hw =>
                apply Walk.cons
                · exact o_load24 rfl rfl rfl rfl
                apply Walk.cons
                · exact o_load24 rfl rfl rfl rfl
                apply Walk.cons
                · exact o_times rfl rfl rfl (by first | assumption | exact pp_lt _ | exact subP_lt _ _ | exact powP_lt _ _ | decide +kernel) (by first | assumption | exact pp_lt _ | exact subP_lt _ _ | exact powP_lt _ _ | decide +kernel)
                apply Walk.cons
                · exact o_store24 rfl rfl rfl rfl rfl
                exact Walk.nil _
              case hck => kernel_rfl
              case hQ =>
                intro ρ A w1 h
                refine wp_seq ?_
                apply region_dag hmix h
                case hw =>
                  apply Walk.cons
                  · exact ok_move rfl rfl rfl
                  apply Walk.cons
                  · exact o_bin rfl rfl rfl rfl (r_quoi (a := q) (b := 8) (by decide) (by omega))
                  apply Walk.cons
                  · exact o_at24 rfl rfl rfl rfl (j := q / 8) (by omega)
                  apply Walk.cons
                  · exact o_load5 rfl rfl rfl rfl (k := q / 8) (by omega)
                  apply Walk.cons
                  · exact ok_move rfl rfl rfl
                  apply Walk.cons
                  · exact o_bin rfl rfl rfl rfl (r_remi (a := q) (b := 8) (by decide))
                  apply Walk.cons
                  · exact o_bin rfl rfl rfl rfl (r_shr8 (byteOf m (q / 8)) (q % 8) .i64 (by omega))
                  apply Walk.cons
                  · exact o_bin rfl rfl rfl rfl (r_and (u8_and_one (byteOf m (q / 8) / 2 ^ (q % 8)) hb2))
                  apply Walk.cons
                  · exact o_bin rfl rfl rfl rfl (r_eqli (a := bitN m q) (b := 1) (decide_eq_true hbit))
                  exact Walk.nil _
                case hck => kernel_rfl
                case hQ =>
                  intro ρ A w1 h
                  refine if_true' h rfl ?_
                  apply region_dag hmix h
                  case hw =>
                    apply Walk.cons
                    · exact o_load24 rfl rfl rfl rfl
                    apply Walk.cons
                    · exact o_load24 rfl rfl rfl rfl
                    apply Walk.cons
                    · exact o_times rfl rfl rfl (by first | assumption | exact pp_lt _ | exact subP_lt _ _ | exact powP_lt _ _ | decide +kernel) (by first | assumption | exact pp_lt _ | exact subP_lt _ _ | exact powP_lt _ _ | decide +kernel)
                    apply Walk.cons
                    · exact o_store24 rfl rfl rfl rfl rfl
                    exact Walk.nil _
                  case hck => kernel_rfl
                  case hQ =>
                    intro ρ A w1 h
                    refine Exit.block_normal (Exit.then_normal ?_)
                    apply region_dag hmix h
                    case hw =>
                      apply Walk.cons
                      · exact ok_move rfl rfl rfl
                      apply Walk.cons
                      · exact o_bin rfl rfl rfl rfl (r_subI (c := (255 : Int) - ((255 - q + 1 : Nat) : Int)) (by rw [IntKind.wrap_i64]; omega))
                      apply Walk.cons
                      · exact ok_assign rfl rfl rfl
                      exact Walk.nil _
                    case hck => kernel_rfl
                    case hQ =>
                      intro ρ A w1 h
                      exact ⟨_, hlt, h.plain (pow29S n m (255 - q + 1)) ⟨rfl, rfl, rfl, rfl, rfl, trivial⟩ ⟨rfl, rfl, rfl, by rw [refT, hqq, if_pos hbit]; rfl, trivial⟩ rfl⟩
          · refine wp_seq ?_
            apply seq_dag hmix h
            case hw =>
              apply Walk.cons
              · exact ok_move rfl rfl rfl
              apply Walk.cons
              · exact o_bin rfl rfl rfl rfl (r_geqI (a := (q : Int)) (b := 0) (decide_eq_true (by omega)))
              exact Walk.nil _
            case hck => kernel_rfl
            case hQ =>
              intro ρ A w1 h
              refine if_true' h rfl (wp_skip ?_)
              refine Exit.then_normal ?_
              refine wp_seq (wp_block ?_)
              apply seq_dag hmix h
              case hw =>
                apply Walk.cons
                · exact o_load24 rfl rfl rfl rfl
                apply Walk.cons
                · exact o_load24 rfl rfl rfl rfl
                apply Walk.cons
                · exact o_times rfl rfl rfl (by first | assumption | exact pp_lt _ | exact subP_lt _ _ | exact powP_lt _ _ | decide +kernel) (by first | assumption | exact pp_lt _ | exact subP_lt _ _ | exact powP_lt _ _ | decide +kernel)
                apply Walk.cons
                · exact o_store24 rfl rfl rfl rfl rfl
                exact Walk.nil _
              case hck => kernel_rfl
              case hQ =>
                intro ρ A w1 h
                refine wp_seq ?_
                apply region_dag hmix h
                case hw =>
                  apply Walk.cons
                  · exact ok_move rfl rfl rfl
                  apply Walk.cons
                  · exact o_bin rfl rfl rfl rfl (r_quoi (a := q) (b := 8) (by decide) (by omega))
                  apply Walk.cons
                  · exact o_at24 rfl rfl rfl rfl (j := q / 8) (by omega)
                  apply Walk.cons
                  · exact o_load5 rfl rfl rfl rfl (k := q / 8) (by omega)
                  apply Walk.cons
                  · exact ok_move rfl rfl rfl
                  apply Walk.cons
                  · exact o_bin rfl rfl rfl rfl (r_remi (a := q) (b := 8) (by decide))
                  apply Walk.cons
                  · exact o_bin rfl rfl rfl rfl (r_shr8 (byteOf m (q / 8)) (q % 8) .i64 (by omega))
                  apply Walk.cons
                  · exact o_bin rfl rfl rfl rfl (r_and (u8_and_one (byteOf m (q / 8) / 2 ^ (q % 8)) hb2))
                  apply Walk.cons
                  · exact o_bin rfl rfl rfl rfl (r_eqli (a := bitN m q) (b := 1) (decide_eq_false hbit))
                  exact Walk.nil _
                case hck => kernel_rfl
                case hQ =>
                  intro ρ A w1 h
                  refine if_false' h rfl (wp_skip ?_)
                  refine Exit.block_normal (Exit.then_normal ?_)
                  apply region_dag hmix h
                  case hw =>
                    apply Walk.cons
                    · exact ok_move rfl rfl rfl
                    apply Walk.cons
                    · exact o_bin rfl rfl rfl rfl (r_subI (c := (255 : Int) - ((255 - q + 1 : Nat) : Int)) (by rw [IntKind.wrap_i64]; omega))
                    apply Walk.cons
                    · exact ok_assign rfl rfl rfl
                    exact Walk.nil _
                  case hck => kernel_rfl
                  case hQ =>
                    intro ρ A w1 h
                    exact ⟨_, hlt, h.plain (pow29S n m (255 - q + 1)) ⟨rfl, rfl, rfl, rfl, rfl, trivial⟩ ⟨rfl, rfl, rfl, by rw [refT, hqq, if_neg hbit]; rfl, trivial⟩ rfl⟩
        · obtain rfl : k = 256 := by omega
          refine wp_seq ?_
          apply seq_dag hmix h
          case hw =>
            apply Walk.cons
            · exact ok_move rfl rfl rfl
            apply Walk.cons
            · exact o_bin rfl rfl rfl rfl (r_geqI (a := (255 : Int) - ((256 : Nat) : Int)) (b := 0) (decide_eq_false (by decide)))
            exact Walk.nil _
          case hck => kernel_rfl
          case hQ =>
            intro ρ A w1 h
            refine if_false' h rfl (wp_exit (at_exit' ?_))
            refine Exit.then_normal ?_
            apply seq_dag hmix h
            case hw =>
              apply Walk.cons
              · exact o_load24 rfl rfl rfl rfl
              apply Walk.cons
              · exact o_store24 rfl rfl rfl rfl rfl
              exact Walk.nil _
            case hck => kernel_rfl
            case hQ =>
              intro ρ A w1 h
              refine wp_ret ?_
              exact h.result24 Try.results29 rfl rfl ⟨by rw [refT_mod n m hm], h.below⟩
theorem o_pow29 {F : Fr} {ops : Array Oper} {S : St} {o : Oper} (hw : want ops S o = some true) {args : Array Operand} {ts : Array TypeId} (ho : o.op = .call { callee := .value (.func 29), args := args, argTypes := ts }) {a b : Nat}
    (hx : args.toList.mapM S.av = some [.v (bv a), .v (bv b)]) (ha : a < 2 ^ 256) (hb : b < 2 ^ 256) : OpOK Try.prog F ops o S { val := .v (bv (powP a b)) } :=
  ok_call_val hw ho (by kernel_rfl) _ hx (rd := []) (fun _ w _ _ => pow29_any a b ha hb w)
theorem inv31_any (n : Nat) (hn : n < 2 ^ 256) (w : World) : Calls Try.prog 31 #[bv n] w fun e w' => e = .returned (bv (powP n (pp - 2))) ∧ Below w.heap.size w w' := by
  go_enter Try.func31, Try.ntmps31
  have h := Rep.start (N := 6) [bv n] [undef, undef, undef, undef, undef] w rfl
  apply seq_dag hmix h
  case hw =>
    apply Walk.cons
    · exact o_box24 1 rfl rfl rfl
    apply Walk.cons
    · exact o_alloc24 2 rfl rfl
    exact Walk.nil _
  case hck => kernel_rfl
  case hQ =>
    intro ρ A w1 h
    apply seq_dag hmix h
    case hw =>
      apply Walk.cons
      · exact o_load24 rfl rfl rfl rfl
      apply Walk.cons
      · exact ok_call_val rfl rfl fn32 [] rfl (rd := []) (fun ρ w _ _ => less_any w)
      apply Walk.cons
      · exact o_pow29 rfl rfl rfl (by first | assumption | exact pp_lt _ | exact subP_lt _ _ | exact powP_lt _ _ | decide +kernel) (by first | assumption | exact pp_lt _ | exact subP_lt _ _ | exact powP_lt _ _ | decide +kernel)
      apply Walk.cons
      · exact o_store24 rfl rfl rfl rfl rfl
      exact Walk.nil _
    case hck => kernel_rfl
    case hQ =>
      intro ρ A w1 h
      refine wp_ret ?_
      exact h.result24 Try.results31 rfl rfl ⟨rfl, h.below⟩
theorem o_inv31 {F : Fr} {ops : Array Oper} {S : St} {o : Oper} (hw : want ops S o = some true) {args : Array Operand} {ts : Array TypeId} (ho : o.op = .call { callee := .value (.func 31), args := args, argTypes := ts }) {a : Nat}
    (hx : args.toList.mapM S.av = some [.v (bv a)]) (ha : a < 2 ^ 256) : OpOK Try.prog F ops o S { val := .v (bv (powP a (pp - 2))) } :=
  ok_call_val hw ho (by kernel_rfl) _ hx (rd := []) (fun _ w _ _ => inv31_any a ha w)
end Go.Proofs.Ytnbdeajjfhlmnaa
