/-
  aditlaw01.FieldExponents: what it hands back is true, for any three numbers of 32 bytes.
-/
import Derived.Test.YtnbdeajjfhlmnaaAwake
namespace Go.Proofs.Ytnbdeajjfhlmnaa
open Go.RowKit

theorem setByte_byte {n k b i : Nat} (hb : b < 256) (hi : i < 32) : byteOf (setByte n k b) i = if i = k then b else byteOf n i := byteOf_setByte n k b i hb hi
theorem lt_of_byte31 {x : Nat} (h1 : x < 2 ^ 256) (h3 : byteOf x 31 < 128) : x < 2 ^ 255 := by
  simp only [byteOf] at h3
  have h256 : (256 : Nat) ^ 31 = 452312848583266388373324160190187140051835877600158453279131187530910662656 := by decide
  rw [h256] at h3
  have e1 : (2 : Nat) ^ 256 = 115792089237316195423570985008687907853269984665640564039457584007913129639936 := by decide
  have e2 : (2 : Nat) ^ 255 = 57896044618658097711785492504343953926634992332820282019728792003956564819968 := by decide
  rw [e1] at h1
  rw [e2]
  omega
theorem low255 {m : Nat} : setByte m 31 (byteOf m 31 % 128) < 2 ^ 255 := by
  have hb : byteOf m 31 % 128 < 256 := Nat.lt_of_lt_of_le (Nat.mod_lt _ (by decide)) (by decide)
  have h1 := setByte_lt m 31 _ hb
  have h2 : byteOf (setByte m 31 (byteOf m 31 % 128)) 31 = byteOf m 31 % 128 := by rw [setByte_byte hb (by decide), if_pos rfl]
  have h3 : byteOf m 31 % 128 < 128 := Nat.mod_lt _ (by decide)
  rw [← h2] at h3
  exact lt_of_byte31 h1 h3

/-- the carry, and the sum, after k bytes -/
def carT (m n : Nat) : Nat → Nat
  | 0 => 0
  | k + 1 => (carT m n k + byteOf m k + byteOf n k) / 256
def byT (m n : Nat) : Nat → Nat
  | 0 => 0
  | k + 1 => setByte (byT m n k) k ((carT m n k + byteOf m k + byteOf n k) % 256)
theorem carT_le (m n k : Nat) : carT m n k ≤ 2 := by
  induction k with
  | zero => exact Nat.zero_le _
  | succ k ih =>
    have := byteOf_lt m k
    have := byteOf_lt n k
    simp only [carT]
    omega
theorem add_div_parts (m0 m1 n0 n1 A : Nat) (hA : 0 < A) : (A * m1 + m0 + (A * n1 + n0)) / A = m1 + n1 + (m0 + n0) / A := by
  have : A * m1 + m0 + (A * n1 + n0) = (m0 + n0) + A * (m1 + n1) := by rw [Nat.mul_add]; omega
  rw [this, Nat.add_mul_div_left _ _ hA, Nat.add_comm]
theorem carT_eq (m n k : Nat) : carT m n k = (m % 256 ^ k + n % 256 ^ k) / 256 ^ k := by
  have hA : ∀ k, 0 < 256 ^ k := fun k => Nat.pow_pos (by decide)
  induction k with
  | zero => simp [carT, Nat.mod_one]
  | succ k ih =>
    have e : ∀ x, x % 256 ^ (k + 1) = 256 ^ k * byteOf x k + x % 256 ^ k := fun x => by rw [Nat.pow_succ, Nat.mod_mul, byteOf, Nat.add_comm]
    rw [carT, ih, e, e, Nat.pow_succ, ← Nat.div_div_eq_div_mul, add_div_parts _ _ _ _ _ (hA k)]
    congr 1
    omega
theorem byteOf_add (m n k : Nat) : byteOf (m + n) k = (carT m n k + byteOf m k + byteOf n k) % 256 := by
  have hA : 0 < 256 ^ k := Nat.pow_pos (by decide)
  have h1 : m + n = 256 ^ k * (m / 256 ^ k) + m % 256 ^ k + (256 ^ k * (n / 256 ^ k) + n % 256 ^ k) := by rw [Nat.div_add_mod, Nat.div_add_mod]
  rw [carT_eq]
  simp only [byteOf]
  rw [show (m + n) / 256 ^ k = m / 256 ^ k + n / 256 ^ k + (m % 256 ^ k + n % 256 ^ k) / 256 ^ k by
    rw [← add_div_parts _ _ _ _ _ hA, ← h1]]
  omega
theorem byT_byte (m n k i : Nat) (hi : i < 32) : byteOf (byT m n k) i = if i < k then byteOf (m + n) i else 0 := by
  induction k with
  | zero => simp [byT, byteOf]
  | succ k ih =>
    rw [byT, setByte_byte (Nat.mod_lt _ (by decide)) hi, ih, ← byteOf_add]
    by_cases h : i = k
    · subst h; rw [if_pos rfl, if_pos (by omega)]
    · by_cases h2 : i < k
      · rw [if_neg h, if_pos h2, if_pos (by omega)]
      · rw [if_neg h, if_neg h2, if_neg (by omega)]
theorem byT_lt (m n k : Nat) : byT m n k < 2 ^ 256 := by
  cases k with
  | zero => exact Nat.pow_pos (by decide)
  | succ k => exact setByte_lt _ _ _ (Nat.mod_lt _ (by decide))
theorem byT_all {m n : Nat} (hm : m < 2 ^ 255) (hn : n < 2 ^ 255) : byT m n 32 = m + n := by
  have h : m + n < 2 ^ 256 := by
    have e1 : (2 : Nat) ^ 256 = 2 ^ 255 + 2 ^ 255 := by decide
    rw [e1]
    exact Nat.add_lt_add hm hn
  exact byte_ext (byT_lt _ _ _) h fun i hi => by rw [byT_byte _ _ _ _ hi, if_pos hi]
theorem one_byte {x : Nat} (hx : x < 256) : setByte 0 0 x = x := by
  refine byte_ext (setByte_lt _ _ _ hx) (Nat.lt_trans hx (by decide)) fun i hi => ?_
  rw [setByte_byte hx hi]
  by_cases h : i = 0
  · subst h; rw [if_pos rfl, byteOf, Nat.pow_zero, Nat.div_one, Nat.mod_eq_of_lt hx]
  · rw [if_neg h]
    have : x / 256 ^ i = 0 := Nat.div_eq_of_lt (Nat.lt_of_lt_of_le hx (by
      have := Nat.pow_le_pow_right (show 0 < 256 by decide) (show 1 ≤ i by omega)
      simpa using this))
    rw [byteOf, byteOf, this, Nat.zero_div]
theorem two_bytes {x : Nat} (hx : x < 65536) : setByte (setByte 0 0 (x % 256)) 1 (x / 256 % 256) = x := by
  have h0 : x % 256 < 256 := Nat.mod_lt _ (by decide)
  have h1 : x / 256 % 256 < 256 := Nat.mod_lt _ (by decide)
  refine byte_ext (setByte_lt _ _ _ h1) (Nat.lt_trans hx (by decide)) fun i hi => ?_
  rw [setByte_byte h1 hi, setByte_byte h0 hi]
  by_cases h : i = 1
  · subst h; rw [if_pos rfl, byteOf, Nat.pow_one]
  · rw [if_neg h]
    by_cases h2 : i = 0
    · subst h2; rw [if_pos rfl, byteOf, Nat.pow_zero, Nat.div_one]
    · rw [if_neg h2]
      have : x / 256 ^ i = 0 := Nat.div_eq_of_lt (Nat.lt_of_lt_of_le hx (by
        have := Nat.pow_le_pow_right (show 0 < 256 by decide) (show 2 ≤ i by omega)
        simpa using this))
      rw [byteOf, byteOf, this, Nat.zero_div]
theorem mulmod_lr (x y : Nat) : x % pp * (y % pp) % pp = x * y % pp := (Nat.mul_mod x y pp).symm
theorem pow_add_eq (a m n : Nat) : powP a m * powP a n % pp = powP a (m + n) := by simp only [powP]; rw [mulmod_lr, ← Nat.pow_add]
theorem pow_mul_eq (a m n : Nat) : powP (powP a m) n = powP a (m * n) := by simp only [powP]; rw [← Nat.pow_mod, ← Nat.pow_mul]
theorem r_rem8 {P : Program} {t : TypeId} {a b : Nat} (h : b ≠ 0) (w : World) : (binOp .rem t (.int .u8 a) (.int .u8 b)).run P w = .ok (.int .u8 ((a % b : Nat) : Int)) w := by
  have hb : ¬ ((b : Int) = 0) := by omega
  have : (a : Int).tmod b = ((a % b : Nat) : Int) := by rw [Int.tmod_eq_emod_of_nonneg (by omega)]; simp
  simp only [binOp, ne_eq, not_true_eq_false, if_false, Op.intDiv, hb, this, Sem.run_pure]

def expS (a m n k : Nat) : St := ⟨[(3, .p 3 0), (4, .p 4 0), (5, .p 5 0), (7, .p 7 0), (8, .v (.int .i64 (carT m n k))), (9, .v (.int .i64 k))], [(3, ⟨bvc a, 24⟩), (4, ⟨bvc m, 24⟩), (5, ⟨bvc n, 24⟩), (7, ⟨bvc (byT m n k), 24⟩)]⟩

set_option maxRecDepth 20000 in
set_option maxHeartbeats 1000000 in
theorem law7_any (a m n : Nat) (ha : a < 2 ^ 256) (_ : m < 2 ^ 256) (_ : n < 2 ^ 256) (w : World) : Calls Try.prog 7 #[bv a, bv m, bv n] w fun e w' => e = .returned (.bool true) ∧ Below w.heap.size w w' := by
  have b128 : ∀ x, byteOf x 31 % 128 < 256 := fun x => Nat.lt_of_lt_of_le (Nat.mod_lt _ (by decide)) (by decide)
  go_enter Try.func7, Try.ntmps7
  have h := Rep.start (N := 89) [bv a, bv m, bv n] [undef, undef, undef, undef, undef, undef, undef, undef, undef, undef, undef, undef, undef, undef, undef, undef, undef, undef, undef, undef, undef, undef, undef, undef, undef, undef, undef, undef, undef, undef, undef, undef, undef, undef, undef, undef, undef, undef, undef, undef, undef, undef, undef, undef, undef, undef, undef, undef, undef, undef, undef, undef, undef, undef, undef, undef, undef, undef, undef, undef, undef, undef, undef, undef, undef, undef, undef, undef, undef, undef, undef, undef, undef, undef, undef, undef, undef, undef, undef, undef, undef, undef, undef, undef, undef, undef] w rfl
  apply seq_dag hmix h
  case hw =>
    apply Walk.cons
    · exact o_box24 3 rfl rfl rfl
    apply Walk.cons
    · exact o_box24 4 rfl rfl rfl
    apply Walk.cons
    · exact o_box24 5 rfl rfl rfl
    apply Walk.cons
    · exact ok_assign rfl rfl rfl
    exact Walk.nil _
  case hck => kernel_rfl
  case hQ =>
    intro ρ A w1 h
    apply seq_dag hmix h
    case hw =>
      apply Walk.cons
      · exact o_at24 rfl rfl rfl rfl (by decide)
      apply Walk.cons
      · exact o_load5 rfl rfl rfl rfl (by decide)
      apply Walk.cons
      · exact o_bin rfl rfl rfl rfl (r_rem8 (a := byteOf m 31) (b := 128) (by decide))
      apply Walk.cons
      · exact o_at24 rfl rfl rfl rfl (by decide)
      apply Walk.cons
      · exact o_store5 rfl rfl rfl rfl rfl (k := 31) (by decide) (b128 m)
      exact Walk.nil _
    case hck => kernel_rfl
    case hQ =>
      intro ρ A w1 h
      apply seq_dag hmix h
      case hw =>
        apply Walk.cons
        · exact o_at24 rfl rfl rfl rfl (by decide)
        apply Walk.cons
        · exact o_load5 rfl rfl rfl rfl (by decide)
        apply Walk.cons
        · exact o_bin rfl rfl rfl rfl (r_rem8 (a := byteOf n 31) (b := 128) (by decide))
        apply Walk.cons
        · exact o_at24 rfl rfl rfl rfl (by decide)
        apply Walk.cons
        · exact o_store5 rfl rfl rfl rfl rfl (k := 31) (by decide) (b128 n)
        exact Walk.nil _
      case hck => kernel_rfl
      case hQ =>
        intro ρ A w1 h
        have hm := low255 (m := m)
        have hn := low255 (m := n)
        have h := h.plain ⟨[(3, .p 3 0), (4, .p 4 0), (5, .p 5 0)], [(3, ⟨bvc a, 24⟩), (4, ⟨bvc (setByte m 31 (byteOf m 31 % 128)), 24⟩), (5, ⟨bvc (setByte n 31 (byteOf n 31 % 128)), 24⟩)]⟩ ⟨rfl, rfl, rfl, trivial⟩ ⟨rfl, rfl, rfl, trivial⟩ rfl
        generalize setByte m 31 (byteOf m 31 % 128) = m at h hm
        generalize setByte n 31 (byteOf n 31 % 128) = n at h hn
        have hm6 : m < 2 ^ 256 := Nat.lt_trans hm (by decide)
        have hn6 : n < 2 ^ 256 := Nat.lt_trans hn (by decide)
        apply seq_dag hmix h
        case hw =>
          apply Walk.cons
          · exact o_alloc24 7 rfl rfl
          exact Walk.nil _
        case hck => kernel_rfl
        case hQ =>
          intro ρ A w1 h
          apply seq_dag hmix h
          case hw =>
            apply Walk.cons
            · exact ok_assign rfl rfl rfl
            exact Walk.nil _
          case hck => kernel_rfl
          case hQ =>
            intro ρ A w1 h
            refine wp_seq ?_
            apply seq_dag hmix h
            case hw =>
              apply Walk.cons
              · exact ok_assign rfl rfl rfl
              exact Walk.nil _
            case hck => kernel_rfl
            case hQ =>
              intro ρ A w1 h
              have h := h.plain (expS a m n 0) ⟨rfl, rfl, rfl, rfl, rfl, rfl, trivial⟩ ⟨rfl, rfl, rfl, rfl, trivial⟩ rfl
              refine wp_block ?_
              refine rep_loop 32 (expS a m n) h ?_
              intro k ρ A w2 hk h
              have hcar := carT_le m n k
              have hbm := byteOf_lt m k
              have hbn := byteOf_lt n k
              by_cases hlt : k < 32
              · refine wp_seq ?_
                apply seq_dag hmix h
                case hw =>
                  apply Walk.cons
                  · exact ok_move rfl rfl rfl
                  apply Walk.cons
                  · exact o_bin rfl rfl rfl rfl (r_lss (a := k) (b := 32) (decide_eq_true hlt))
                  exact Walk.nil _
                case hck => kernel_rfl
                case hQ =>
                  intro ρ A w1 h
                  refine if_true' h rfl (wp_skip ?_)
                  refine Exit.then_normal ?_
                  refine wp_seq (wp_block ?_)
                  apply seq_dag hmix h
                  case hw =>
                    apply Walk.cons
                    · exact ok_move rfl rfl rfl
                    apply Walk.cons
                    · exact ok_move rfl rfl rfl
                    apply Walk.cons
                    · exact o_at24 rfl rfl rfl rfl (j := k) hlt
                    apply Walk.cons
                    · exact o_load5 rfl rfl rfl rfl (k := k) hlt
                    apply Walk.cons
                    · exact o_conv rfl rfl rfl (by kernel_rfl) Try.underlying3 (wrap_small (byteOf m k) (by omega))
                    apply Walk.cons
                    · exact o_bin rfl rfl rfl rfl (r_addi (a := carT m n k) (b := byteOf m k) (by omega))
                    apply Walk.cons
                    · exact ok_move rfl rfl rfl
                    apply Walk.cons
                    · exact o_at24 rfl rfl rfl rfl (j := k) hlt
                    apply Walk.cons
                    · exact o_load5 rfl rfl rfl rfl (k := k) hlt
                    apply Walk.cons
                    · exact o_conv rfl rfl rfl (by kernel_rfl) Try.underlying3 (wrap_small (byteOf n k) (by omega))
                    apply Walk.cons
                    · exact o_bin rfl rfl rfl rfl (r_addi (a := carT m n k + byteOf m k) (b := byteOf n k) (by omega))
                    apply Walk.cons
                    · exact ok_assign rfl rfl rfl
                    exact Walk.nil _
                  case hck => kernel_rfl
                  case hQ =>
                    intro ρ A w1 h
                    apply seq_dag hmix h
                    case hw =>
                      apply Walk.cons
                      · exact ok_move rfl rfl rfl
                      apply Walk.cons
                      · exact ok_move rfl rfl rfl
                      apply Walk.cons
                      · exact o_conv rfl rfl rfl (by kernel_rfl) Try.underlying5 (put_conv (carT m n k + byteOf m k + byteOf n k))
                      apply Walk.cons
                      · exact o_at24 rfl rfl rfl rfl (j := k) hlt
                      apply Walk.cons
                      · exact o_store5 rfl rfl rfl rfl rfl (k := k) hlt (Nat.mod_lt _ (by decide))
                      exact Walk.nil _
                    case hck => kernel_rfl
                    case hQ =>
                      intro ρ A w1 h
                      apply region_dag hmix h
                      case hw =>
                        apply Walk.cons
                        · exact ok_move rfl rfl rfl
                        apply Walk.cons
                        · exact o_bin rfl rfl rfl rfl (r_quoi (a := carT m n k + byteOf m k + byteOf n k) (b := 256) (by decide) (by omega))
                        apply Walk.cons
                        · exact ok_assign rfl rfl rfl
                        exact Walk.nil _
                      case hck => kernel_rfl
                      case hQ =>
                        intro ρ A w1 h
                        refine Exit.block_normal (Exit.then_normal ?_)
                        apply region_dag hmix h
                        case hw =>
                          apply Walk.cons
                          · exact ok_move rfl rfl rfl
                          apply Walk.cons
                          · exact o_bin rfl rfl rfl rfl (r_addi (a := k) (b := 1) (by omega))
                          apply Walk.cons
                          · exact ok_assign rfl rfl rfl
                          exact Walk.nil _
                        case hck => kernel_rfl
                        case hQ =>
                          intro ρ A w1 h
                          exact ⟨_, hlt, h.plain (expS a m n (k + 1)) ⟨rfl, rfl, rfl, rfl, rfl, rfl, trivial⟩ ⟨rfl, rfl, rfl, rfl, trivial⟩ rfl⟩
              · obtain rfl : k = 32 := by omega
                refine wp_seq ?_
                apply seq_dag hmix h
                case hw =>
                  apply Walk.cons
                  · exact ok_move rfl rfl rfl
                  apply Walk.cons
                  · exact o_bin rfl rfl rfl rfl (r_lss (a := 32) (b := 32) (decide_eq_false hlt))
                  exact Walk.nil _
                case hck => kernel_rfl
                case hQ =>
                  intro ρ A w1 h
                  refine if_false' h rfl (wp_exit (at_exit' ?_))
                  refine Exit.then_normal ?_
                  have h := h.plain ⟨[(3, .p 3 0), (4, .p 4 0), (5, .p 5 0), (7, .p 7 0)], [(3, ⟨bvc a, 24⟩), (4, ⟨bvc m, 24⟩), (5, ⟨bvc n, 24⟩), (7, ⟨bvc (byT m n 32), 24⟩)]⟩ ⟨rfl, rfl, rfl, rfl, trivial⟩ ⟨rfl, rfl, rfl, rfl, trivial⟩ rfl
                  rw [byT_all hm hn] at h
                  have hmn : m + n < 2 ^ 256 := by rw [← byT_all hm hn]; exact byT_lt _ _ _
                  have hx := byteOf_lt m 0
                  have hy := byteOf_lt n 0
                  have hxy : byteOf m 0 * byteOf n 0 < 65536 := Nat.lt_of_le_of_lt (Nat.mul_le_mul (show byteOf m 0 ≤ 255 by omega) (show byteOf n 0 ≤ 255 by omega)) (by decide)
                  apply seq_dag hmix h
                  case hw =>
                    apply Walk.cons
                    · exact o_at24 rfl rfl rfl rfl (by decide)
                    apply Walk.cons
                    · exact o_load5 rfl rfl rfl rfl (k := 0) (by decide)
                    apply Walk.cons
                    · exact o_conv rfl rfl rfl (by kernel_rfl) Try.underlying3 (wrap_small (byteOf m 0) (by omega))
                    apply Walk.cons
                    · exact ok_assign rfl rfl rfl
                    exact Walk.nil _
                  case hck => kernel_rfl
                  case hQ =>
                    intro ρ A w1 h
                    apply seq_dag hmix h
                    case hw =>
                      apply Walk.cons
                      · exact o_at24 rfl rfl rfl rfl (by decide)
                      apply Walk.cons
                      · exact o_load5 rfl rfl rfl rfl (k := 0) (by decide)
                      apply Walk.cons
                      · exact o_conv rfl rfl rfl (by kernel_rfl) Try.underlying3 (wrap_small (byteOf n 0) (by omega))
                      apply Walk.cons
                      · exact ok_assign rfl rfl rfl
                      exact Walk.nil _
                    case hck => kernel_rfl
                    case hQ =>
                      intro ρ A w1 h
                      apply seq_dag hmix h
                      case hw =>
                        apply Walk.cons
                        · exact o_alloc24 12 rfl rfl
                        exact Walk.nil _
                      case hck => kernel_rfl
                      case hQ =>
                        intro ρ A w1 h
                        apply seq_dag hmix h
                        case hw =>
                          apply Walk.cons
                          · exact ok_move rfl rfl rfl
                          apply Walk.cons
                          · exact ok_move rfl rfl rfl
                          apply Walk.cons
                          · exact o_bin rfl rfl rfl rfl (r_muli (a := byteOf m 0) (b := byteOf n 0) (by omega))
                          apply Walk.cons
                          · exact o_conv rfl rfl rfl (by kernel_rfl) Try.underlying5 (put_conv (byteOf m 0 * byteOf n 0))
                          apply Walk.cons
                          · exact o_at24 rfl rfl rfl rfl (by decide)
                          apply Walk.cons
                          · exact o_store5 rfl rfl rfl rfl rfl (k := 0) (by decide) (Nat.mod_lt _ (by decide))
                          exact Walk.nil _
                        case hck => kernel_rfl
                        case hQ =>
                          intro ρ A w1 h
                          apply seq_dag hmix h
                          case hw =>
                            apply Walk.cons
                            · exact ok_move rfl rfl rfl
                            apply Walk.cons
                            · exact ok_move rfl rfl rfl
                            apply Walk.cons
                            · exact o_bin rfl rfl rfl rfl (r_muli (a := byteOf m 0) (b := byteOf n 0) (by omega))
                            apply Walk.cons
                            · exact o_bin rfl rfl rfl rfl (r_quoi (a := byteOf m 0 * byteOf n 0) (b := 256) (by decide) (by omega))
                            apply Walk.cons
                            · exact o_conv rfl rfl rfl (by kernel_rfl) Try.underlying5 (put_conv (byteOf m 0 * byteOf n 0 / 256))
                            apply Walk.cons
                            · exact o_at24 rfl rfl rfl rfl (by decide)
                            apply Walk.cons
                            · exact o_store5 rfl rfl rfl rfl rfl (k := 1) (by decide) (Nat.mod_lt _ (by decide))
                            exact Walk.nil _
                          case hck => kernel_rfl
                          case hQ =>
                            intro ρ A w1 h
                            have h := h.plain ⟨[(3, .p 3 0), (4, .p 4 0), (5, .p 5 0), (7, .p 7 0), (12, .p 12 0)], [(3, ⟨bvc a, 24⟩), (4, ⟨bvc m, 24⟩), (5, ⟨bvc n, 24⟩), (7, ⟨bvc (m + n), 24⟩), (12, ⟨bvc (setByte (setByte 0 0 (byteOf m 0 * byteOf n 0 % 256)) 1 (byteOf m 0 * byteOf n 0 / 256 % 256)), 24⟩)]⟩ ⟨rfl, rfl, rfl, rfl, rfl, trivial⟩ ⟨rfl, rfl, rfl, rfl, rfl, trivial⟩ rfl
                            rw [two_bytes hxy] at h
                            have hx6 : byteOf m 0 < 2 ^ 256 := Nat.lt_trans hx (by decide)
                            have hy6 : byteOf n 0 < 2 ^ 256 := Nat.lt_trans hy (by decide)
                            have hxy6 : byteOf m 0 * byteOf n 0 < 2 ^ 256 := Nat.lt_trans hxy (by decide)
                            apply seq_dag hmix h
                            case hw =>
                              apply Walk.cons
                              · exact o_load24 rfl rfl rfl rfl
                              apply Walk.cons
                              · exact o_load24 rfl rfl rfl rfl
                              apply Walk.cons
                              · exact o_pow rfl rfl rfl (by first | assumption | exact pp_lt _ | exact subP_lt _ _ | exact powP_lt _ _ | decide +kernel) (by first | assumption | exact pp_lt _ | exact subP_lt _ _ | exact powP_lt _ _ | decide +kernel)
                              apply Walk.cons
                              · exact o_load24 rfl rfl rfl rfl
                              apply Walk.cons
                              · exact o_load24 rfl rfl rfl rfl
                              apply Walk.cons
                              · exact o_pow rfl rfl rfl (by first | assumption | exact pp_lt _ | exact subP_lt _ _ | exact powP_lt _ _ | decide +kernel) (by first | assumption | exact pp_lt _ | exact subP_lt _ _ | exact powP_lt _ _ | decide +kernel)
                              apply Walk.cons
                              · exact o_lit2 65 rfl rfl rfl rfl rfl
                              apply Walk.cons
                              · exact o_mul2 rfl rfl rfl rfl (by first | assumption | exact pp_lt _ | exact subP_lt _ _ | exact powP_lt _ _ | decide +kernel) (by first | assumption | exact pp_lt _ | exact subP_lt _ _ | exact powP_lt _ _ | decide +kernel)
                              apply Walk.cons
                              · exact o_load24 rfl rfl rfl rfl
                              apply Walk.cons
                              · exact o_load24 rfl rfl rfl rfl
                              apply Walk.cons
                              · exact o_pow rfl rfl rfl (by first | assumption | exact pp_lt _ | exact subP_lt _ _ | exact powP_lt _ _ | decide +kernel) (by first | assumption | exact pp_lt _ | exact subP_lt _ _ | exact powP_lt _ _ | decide +kernel)
                              apply Walk.cons
                              · exact o_eql24 rfl rfl rfl rfl (by first | assumption | exact pp_lt _ | exact subP_lt _ _ | exact powP_lt _ _ | decide +kernel) (by first | assumption | exact pp_lt _ | exact subP_lt _ _ | exact powP_lt _ _ | decide +kernel) (decide_eq_true (pow_add_eq a m n))
                              apply Walk.cons
                              · exact ok_move rfl rfl rfl
                              apply Walk.cons
                              · exact o_load24 rfl rfl rfl rfl
                              apply Walk.cons
                              · exact o_at24 rfl rfl rfl rfl (by decide)
                              apply Walk.cons
                              · exact o_load5 rfl rfl rfl rfl (k := 0) (by decide)
                              apply Walk.cons
                              · exact o_built rfl rfl (by kernel_rfl) (v := bv (byteOf m 0)) (fun w => (by kernel_rfl : _ = Result.ok (Value.agg ((bvc 0).setIfInBounds 0 (.int .u8 (byteOf m 0)))) w).trans (by rw [bvc_set 0 0 _ (by decide) (byteOf_lt _ _), one_byte (byteOf_lt _ _), bv_def]))
                              apply Walk.cons
                              · exact o_pow rfl rfl rfl (by first | assumption | exact pp_lt _ | exact subP_lt _ _ | exact powP_lt _ _ | decide +kernel) (by first | assumption | exact pp_lt _ | exact subP_lt _ _ | exact powP_lt _ _ | decide +kernel)
                              apply Walk.cons
                              · exact o_at24 rfl rfl rfl rfl (by decide)
                              apply Walk.cons
                              · exact o_load5 rfl rfl rfl rfl (k := 0) (by decide)
                              apply Walk.cons
                              · exact o_built rfl rfl (by kernel_rfl) (v := bv (byteOf n 0)) (fun w => (by kernel_rfl : _ = Result.ok (Value.agg ((bvc 0).setIfInBounds 0 (.int .u8 (byteOf n 0)))) w).trans (by rw [bvc_set 0 0 _ (by decide) (byteOf_lt _ _), one_byte (byteOf_lt _ _), bv_def]))
                              apply Walk.cons
                              · exact o_pow rfl rfl rfl (by first | assumption | exact pp_lt _ | exact subP_lt _ _ | exact powP_lt _ _ | decide +kernel) (by first | assumption | exact pp_lt _ | exact subP_lt _ _ | exact powP_lt _ _ | decide +kernel)
                              apply Walk.cons
                              · exact o_load24 rfl rfl rfl rfl
                              apply Walk.cons
                              · exact o_load24 rfl rfl rfl rfl
                              apply Walk.cons
                              · exact o_pow rfl rfl rfl (by first | assumption | exact pp_lt _ | exact subP_lt _ _ | exact powP_lt _ _ | decide +kernel) (by first | assumption | exact pp_lt _ | exact subP_lt _ _ | exact powP_lt _ _ | decide +kernel)
                              apply Walk.cons
                              · exact o_eql24 rfl rfl rfl rfl (by first | assumption | exact pp_lt _ | exact subP_lt _ _ | exact powP_lt _ _ | decide +kernel) (by first | assumption | exact pp_lt _ | exact subP_lt _ _ | exact powP_lt _ _ | decide +kernel) (decide_eq_true (pow_mul_eq a _ _))
                              apply Walk.cons
                              · exact ok_pick_true rfl rfl rfl rfl
                              apply Walk.cons
                              · exact ok_move rfl rfl rfl
                              apply Walk.cons
                              · exact ok_call_val rfl rfl fn20 [] rfl (rd := []) (fun ρ w _ _ => awake_any w)
                              apply Walk.cons
                              · exact ok_pick_true rfl rfl rfl rfl
                              apply Walk.cons
                              · exact ok_assign rfl rfl rfl
                              exact Walk.nil _
                            case hck => kernel_rfl
                            case hQ =>
                              intro ρ A w1 h
                              refine wp_ret ?_
                              exact h.result_tmp Try.results7 rfl ⟨rfl, h.below⟩
end Go.Proofs.Ytnbdeajjfhlmnaa
