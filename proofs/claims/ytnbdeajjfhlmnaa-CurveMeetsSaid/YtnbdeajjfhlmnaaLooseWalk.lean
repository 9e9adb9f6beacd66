/-
  What 'awake' of the second law file hands back; and aditlaw02.CurveLoose: what it hands back is true, for any two numbers of 32 bytes and any whole number.
-/
import Derived.Test.YtnbdeajjfhlmnaaCurve
import Derived.Test.YtnbdeajjfhlmnaaRefs
import Derived.Test.YtnbdeajjfhlmnaaExps
import Derived.Test.YtnbdeajjfhlmnaaRules
namespace Go.Proofs.Ytnbdeajjfhlmnaa
open Go.RowKit

def nineB : List Nat := [66, 44, 142, 122, 98, 39, 215, 188, 161, 53, 11, 62, 43, 183, 39, 159, 120, 151, 184, 123, 182, 133, 75, 120, 60, 96, 232, 3, 17, 174, 48, 121]
def nineN : Nat := nineB.foldr (fun b n => b + 256 * n) 0
theorem nine_aux (q : Q4) {N : Nat} (h : q.x2 * refT q.z2 (pp - 2) 256 % pp = N) : q.x2 * powP q.z2 (pp - 2) % pp = N := by
  rw [← refT_mod q.z2 (pp - 2) (by decide)]
  exact h
theorem nine_times : timesP 9 9 = nineN := by
  have h : (lad (clampP 9) (maskP 9) 255).x2 * refT (lad (clampP 9) (maskP 9) 255).z2 (pp - 2) 256 % pp = nineN := by decide +kernel
  rw [timesP, endP]
  exact nine_aux _ h
theorem fn34 : goFn Try.prog 34 = true := by kernel_rfl
theorem awake34_any (w : World) : Calls Try.prog 34 #[] w fun e w' => e = .returned (.bool true) ∧ Below w.heap.size w w' := by
  go_enter Try.func34, Try.ntmps34
  have h := Rep.start (N := 5) [] [undef, undef, undef, undef, undef] w rfl
  apply seq_dag hmix h
  case hw =>
    apply Walk.cons
    · exact ok_assign rfl rfl rfl
    exact Walk.nil _
  case hck => kernel_rfl
  case hQ =>
    intro ρ A w1 h
    apply seq_dag hmix h
    case hw =>
      apply Walk.cons
      · exact o_built rfl rfl (by kernel_rfl) (v := bv 9) (fun w => by kernel_rfl)
      apply Walk.cons
      · exact o_public39 rfl rfl rfl (by first | assumption | exact pp_lt _ | exact timesP_lt _ _ | exact clampP_lt _ | decide +kernel)
      apply Walk.cons
      · exact o_built rfl rfl (by kernel_rfl) (v := bv nineN) (fun w => by kernel_rfl)
      apply Walk.cons
      · exact o_eql24 rfl rfl rfl rfl (timesP_lt _ _) (by decide +kernel) (decide_eq_true nine_times)
      apply Walk.cons
      · exact ok_assign rfl rfl rfl
      exact Walk.nil _
    case hck => kernel_rfl
    case hQ =>
      intro ρ A w1 h
      refine wp_ret ?_
      exact h.result_tmp Try.results34 rfl ⟨rfl, h.below⟩

/-! ### the law -/
theorem clamp_byte (n i : Nat) (hi : i < 32) : byteOf (clampP n) i = if i = 31 then byteOf n 31 % 64 + 64 else if i = 0 then byteOf n 0 / 8 * 8 else byteOf n i := by
  rw [clampP, byteOf_setByte _ _ _ _ (clamp_b31 n) hi, byteOf_setByte _ _ _ _ (clamp_b0 n) hi]
theorem clamp_ext {a b : Nat} (h0 : byteOf a 0 / 8 = byteOf b 0 / 8) (h31 : byteOf a 31 % 64 = byteOf b 31 % 64) (hi : ∀ i, i < 32 → i ≠ 0 → i ≠ 31 → byteOf a i = byteOf b i) : clampP a = clampP b := by
  refine byte_ext (clampP_lt a) (clampP_lt b) fun i h => ?_
  rw [clamp_byte a i h, clamp_byte b i h, h0, h31]
  by_cases e1 : i = 31
  · rw [if_pos e1, if_pos e1]
  · by_cases e0 : i = 0
    · rw [if_neg e1, if_neg e1, if_pos e0, if_pos e0]
    · rw [if_neg e1, if_neg e1, if_neg e0, if_neg e0, hi i h e0 e1]
theorem clamp_clamp (n : Nat) : clampP (clampP n) = clampP n := by
  refine clamp_ext ?_ ?_ fun i hi h0 h31 => ?_
  · rw [clamp_byte n 0 (by decide), if_neg (by decide), if_pos rfl]; omega
  · rw [clamp_byte n 31 (by decide), if_pos rfl]; omega
  · rw [clamp_byte n i hi, if_neg h31, if_neg h0]
theorem mask_byte (n i : Nat) (hi : i < 32) : byteOf (maskP n) i = if i = 31 then byteOf n 31 % 128 else byteOf n i := byteOf_setByte _ _ _ _ (mask_b n) hi
theorem mask_ext {a b : Nat} (h31 : byteOf a 31 % 128 = byteOf b 31 % 128) (hi : ∀ i, i < 32 → i ≠ 31 → byteOf a i = byteOf b i) : maskP a = maskP b := by
  refine byte_ext (maskP_lt a) (maskP_lt b) fun i h => ?_
  rw [mask_byte a i h, mask_byte b i h, h31]
  by_cases e1 : i = 31
  · rw [if_pos e1, if_pos e1]
  · rw [if_neg e1, if_neg e1, hi i h e1]
theorem mask_small {n : Nat} (hn : n < pp) : maskP n = n := by
  have h6 : n < 2 ^ 256 := Nat.lt_trans hn (by decide)
  refine byte_ext (maskP_lt n) h6 fun i h => ?_
  rw [mask_byte n i h]
  by_cases e1 : i = 31
  · subst e1
    have := byte31 n
    rw [Nat.mod_eq_of_lt hn] at this
    rw [if_pos rfl, Nat.mod_eq_of_lt this]
  · rw [if_neg e1]
theorem step_mod (u : Nat) (q : Q4) : stepP (u % pp) q = stepP u q := by
  simp only [stepP]
  congr 1
  rw [Nat.mul_assoc, Nat.mul_assoc, Nat.mod_mul_mod]
theorem lad_mod (k u j : Nat) : lad k (u % pp) j = lad k u j := by
  induction j with
  | zero => simp only [lad, Nat.mod_mod]
  | succ j ih => rw [lad, lad, ih, step_mod]
theorem end_mod (k u : Nat) : endP k (u % pp) = endP k u := by rw [endP, endP, lad_mod]
theorem xor_low {b y : Nat} (hb : b < 256) (hy : y < 8) : (b ^^^ y) < 256 ∧ (b ^^^ y) / 8 = b / 8 := by
  have h : (List.range 256).all (fun b => (List.range 8).all fun y => decide ((b ^^^ y) < 256 ∧ (b ^^^ y) / 8 = b / 8)) = true := by decide +kernel
  exact of_decide_eq_true (List.all_eq_true.1 (List.all_eq_true.1 h b (List.mem_range.2 hb)) y (List.mem_range.2 hy))
theorem xor_top {b p q : Nat} (hb : b < 256) (hp : p < 2) (hq : q < 2) : (b ^^^ p * 128) < 256 ∧ (b ^^^ p * 128 ^^^ q * 64) < 256 ∧ (b ^^^ p * 128 ^^^ q * 64) % 64 = b % 64 := by
  have h : (List.range 256).all (fun b => (List.range 2).all fun p => (List.range 2).all fun q => decide ((b ^^^ p * 128) < 256 ∧ (b ^^^ p * 128 ^^^ q * 64) < 256 ∧ (b ^^^ p * 128 ^^^ q * 64) % 64 = b % 64)) = true := by decide +kernel
  exact of_decide_eq_true (List.all_eq_true.1 (List.all_eq_true.1 (List.all_eq_true.1 h b (List.mem_range.2 hb)) p (List.mem_range.2 hp)) q (List.mem_range.2 hq))
theorem xor_128 {b : Nat} (hb : b < 256) : (b ^^^ 128) < 256 ∧ (b ^^^ 128) % 128 = b % 128 :=
  of_decide_eq_true (all256 (p := fun b => decide ((b ^^^ 128) < 256 ∧ (b ^^^ 128) % 128 = b % 128)) (by decide +kernel) b hb)
/-- the scalar turned where the clamp does not look -/
def kTurn (k x : Nat) : Nat := setByte (setByte k 0 (byteOf k 0 ^^^ x % 8)) 31 (byteOf k 31 ^^^ x / 8 % 2 * 128 ^^^ x / 16 % 2 * 64)
theorem kTurn_lt (k x : Nat) : kTurn k x < 2 ^ 256 := setByte_lt _ _ _ (xor_top (byteOf_lt _ _) (Nat.mod_lt _ (by decide)) (Nat.mod_lt _ (by decide))).2.1
theorem kTurn_clamp (k x : Nat) : clampP (kTurn k x) = clampP k := by
  have h1 := xor_low (byteOf_lt k 0) (Nat.mod_lt x (show 0 < 8 by decide))
  have h2 := xor_top (byteOf_lt k 31) (Nat.mod_lt (x / 8) (show 0 < 2 by decide)) (Nat.mod_lt (x / 16) (show 0 < 2 by decide))
  refine clamp_ext ?_ ?_ fun i hi i0 i31 => ?_
  · rw [kTurn, byteOf_setByte _ _ _ _ h2.2.1 (by decide), if_neg (by decide), byteOf_setByte _ _ _ _ h1.1 (by decide), if_pos rfl, h1.2]
  · rw [kTurn, byteOf_setByte _ _ _ _ h2.2.1 (by decide), if_pos rfl, h2.2.2]
  · rw [kTurn, byteOf_setByte _ _ _ _ h2.2.1 hi, if_neg i31, byteOf_setByte _ _ _ _ h1.1 hi, if_neg i0]
def uTurn (u : Nat) : Nat := setByte u 31 (byteOf u 31 ^^^ 128)
theorem uTurn_lt (u : Nat) : uTurn u < 2 ^ 256 := setByte_lt _ _ _ (xor_128 (byteOf_lt _ _)).1
theorem uTurn_mask (u : Nat) : maskP (uTurn u) = maskP u := by
  have h := xor_128 (byteOf_lt u 31)
  refine mask_ext ?_ fun i hi i31 => ?_
  · rw [uTurn, byteOf_setByte _ _ _ _ h.1 (by decide), if_pos rfl, h.2]
  · rw [uTurn, byteOf_setByte _ _ _ _ h.1 hi, if_neg i31]
theorem loose1 (k u x : Nat) : timesP (kTurn k x) (uTurn u) = timesP k u := by rw [timesP, timesP, kTurn_clamp, uTurn_mask]
theorem loose2 (k u : Nat) : timesP (clampP k) (maskP u % pp) = timesP k u := by
  rw [timesP, timesP, clamp_clamp, mask_small (Nat.mod_lt _ (by decide)), end_mod]
theorem loose3 (k u : Nat) : timesP k u % pp = timesP k u := Nat.mod_mod _ _
theorem loose4 (k x : Nat) : clampP (clampP k) = clampP (kTurn k x) := by rw [clamp_clamp, kTurn_clamp]
theorem r_quo8 {P : Program} {t : TypeId} {a b : Nat} (h : b ≠ 0) (ha : a < 256) (w : World) : (binOp .quo t (.int .u8 a) (.int .u8 b)).run P w = .ok (.int .u8 ((a / b : Nat) : Int)) w := by
  have hb : ¬ ((b : Int) = 0) := by omega
  have : (a : Int).tdiv b = ((a / b : Nat) : Int) := by rw [Int.tdiv_eq_ediv_of_nonneg (by omega)]; simp
  have hlt : a / b < 256 := Nat.lt_of_le_of_lt (Nat.div_le_self _ _) ha
  simp only [binOp, ne_eq, not_true_eq_false, if_false, Op.intDiv, hb, this, Sem.run_pure, u8_small hlt]
theorem r_mul8 {P : Program} {t : TypeId} {a b : Nat} (h : a * b < 256) (w : World) : (binOp .mul t (.int .u8 a) (.int .u8 b)).run P w = .ok (.int .u8 ((a * b : Nat) : Int)) w := by
  show Result.ok (Value.int .u8 (IntKind.u8.wrap ((a : Int) * b))) w = _
  rw [← Int.natCast_mul, u8_small h]
theorem u8_int (x : Int) : IntKind.u8.wrap x = ((x % 256).toNat : Int) := by
  have h0 : 0 ≤ x % 256 := Int.emod_nonneg _ (by decide)
  rw [Int.toNat_of_nonneg h0, IntKind.wrap_u8']
attribute [local irreducible] pp timesP clampP endP lad
set_option maxRecDepth 20000 in
set_option maxHeartbeats 1000000 in
theorem law11_any (k u : Nat) (x : Int) (hk : k < 2 ^ 256) (hu : u < 2 ^ 256) (w : World) : Calls Try.prog 11 #[bv k, bv u, .int .i64 x] w fun e w' => e = .returned (.bool true) ∧ Below w.heap.size w w' := by
  have hc := u8_int x
  have hxb : (x % 256).toNat < 256 := by omega
  generalize (x % 256).toNat = y at hc hxb
  have y8 : y % 8 < 256 := by omega
  have y128 : y / 8 % 2 * 128 < 256 := by omega
  have y64 : y / 16 % 2 * 64 < 256 := by omega
  have h1 := xor_low (byteOf_lt k 0) (Nat.mod_lt y (show 0 < 8 by decide))
  have h2 := xor_top (byteOf_lt k 31) (Nat.mod_lt (y / 8) (show 0 < 2 by decide)) (Nat.mod_lt (y / 16) (show 0 < 2 by decide))
  have h3 := xor_128 (byteOf_lt u 31)
  have b0 := byteOf_lt k 0
  have b31 := byteOf_lt k 31
  have u31 := byteOf_lt u 31
  have e31 := byte31_0 k (byteOf k 0 ^^^ y % 8) h1.1
  have hkt := kTurn_lt k y
  have hut := uTurn_lt u
  have hmu := maskP_lt u
  have hp : y / 8 % 2 < 2 := Nat.mod_lt _ (by decide)
  have hq : y / 16 % 2 < 2 := Nat.mod_lt _ (by decide)
  go_enter Try.func11, Try.ntmps11
  have h := Rep.start (N := 79) [bv k, bv u, .int .i64 x] [undef, undef, undef, undef, undef, undef, undef, undef, undef, undef, undef, undef, undef, undef, undef, undef, undef, undef, undef, undef, undef, undef, undef, undef, undef, undef, undef, undef, undef, undef, undef, undef, undef, undef, undef, undef, undef, undef, undef, undef, undef, undef, undef, undef, undef, undef, undef, undef, undef, undef, undef, undef, undef, undef, undef, undef, undef, undef, undef, undef, undef, undef, undef, undef, undef, undef, undef, undef, undef, undef, undef, undef, undef, undef, undef, undef] w rfl
  apply seq_dag hmix h
  case hw =>
    apply Walk.cons
    · exact o_box24 3 rfl rfl rfl
    apply Walk.cons
    · exact o_box24 4 rfl rfl rfl
    apply Walk.cons
    · exact ok_assign rfl rfl rfl
    exact Walk.nil _
  case hck => kernel_rfl
  case hQ =>
    intro ρ A w1 h
    apply seq_dag hmix h
    case hw =>
      apply Walk.cons
      · exact o_load24 rfl rfl rfl rfl
      apply Walk.cons
      · exact o_load24 rfl rfl rfl rfl
      apply Walk.cons
      · exact o_times33 rfl rfl rfl (by first | assumption | exact pp_lt _ | exact timesP_lt _ _ | exact clampP_lt _ | decide +kernel) (by first | assumption | exact pp_lt _ | exact timesP_lt _ _ | exact clampP_lt _ | decide +kernel)
      apply Walk.cons
      · exact o_alloc24 7 rfl rfl
      apply Walk.cons
      · exact o_store24 rfl rfl rfl rfl rfl
      exact Walk.nil _
    case hck => kernel_rfl
    case hQ =>
      intro ρ A w1 h
      apply seq_dag hmix h
      case hw =>
        apply Walk.cons
        · exact o_load24 rfl rfl rfl rfl
        apply Walk.cons
        · exact o_alloc24 8 rfl rfl
        apply Walk.cons
        · exact o_store24 rfl rfl rfl rfl rfl
        exact Walk.nil _
      case hck => kernel_rfl
      case hQ =>
        intro ρ A w1 h
        apply seq_dag hmix h
        case hw =>
          apply Walk.cons
          · exact o_at24 rfl rfl rfl rfl (by decide)
          apply Walk.cons
          · exact o_load5 rfl rfl rfl rfl (k := 0) (by decide)
          apply Walk.cons
          · exact ok_move rfl rfl rfl
          apply Walk.cons
          · exact o_conv rfl rfl rfl (by kernel_rfl) Try.underlying5 hc
          apply Walk.cons
          · exact o_bin rfl rfl rfl rfl (r_rem8 (a := y) (b := 8) (by decide))
          apply Walk.cons
          · exact o_bin rfl rfl rfl rfl (r_xor (u8_xor_nat (byteOf k 0) (y % 8) b0 y8))
          apply Walk.cons
          · exact o_at24 rfl rfl rfl rfl (by decide)
          apply Walk.cons
          · exact o_store5 rfl rfl rfl rfl rfl (k := 0) (by decide) h1.1
          exact Walk.nil _
        case hck => kernel_rfl
        case hQ =>
          intro ρ A w1 h
          apply seq_dag hmix h
          case hw =>
            apply Walk.cons
            · exact o_at24 rfl rfl rfl rfl (by decide)
            apply Walk.cons
            · exact o_load5 rfl rfl rfl rfl (k := 31) (by decide)
            apply Walk.cons
            · exact ok_move rfl rfl rfl
            apply Walk.cons
            · exact o_conv rfl rfl rfl (by kernel_rfl) Try.underlying5 hc
            apply Walk.cons
            · exact o_bin rfl rfl rfl rfl (r_quo8 (a := y) (b := 8) (by decide) hxb)
            apply Walk.cons
            · exact o_bin rfl rfl rfl rfl (r_rem8 (a := y / 8) (b := 2) (by decide))
            apply Walk.cons
            · exact o_bin rfl rfl rfl rfl (r_mul8 (a := y / 8 % 2) (b := 128) y128)
            apply Walk.cons
            · exact o_bin rfl rfl rfl rfl (r_xor (c := ((byteOf k 31 ^^^ y / 8 % 2 * 128 : Nat) : Int)) (by rw [e31]; exact u8_xor_nat (byteOf k 31) (y / 8 % 2 * 128) b31 y128))
            apply Walk.cons
            · exact ok_move rfl rfl rfl
            apply Walk.cons
            · exact o_conv rfl rfl rfl (by kernel_rfl) Try.underlying5 hc
            apply Walk.cons
            · exact o_bin rfl rfl rfl rfl (r_quo8 (a := y) (b := 16) (by decide) hxb)
            apply Walk.cons
            · exact o_bin rfl rfl rfl rfl (r_rem8 (a := y / 16) (b := 2) (by decide))
            apply Walk.cons
            · exact o_bin rfl rfl rfl rfl (r_mul8 (a := y / 16 % 2) (b := 64) y64)
            apply Walk.cons
            · exact o_bin rfl rfl rfl rfl (r_xor (u8_xor_nat (byteOf k 31 ^^^ y / 8 % 2 * 128) (y / 16 % 2 * 64) h2.1 y64))
            apply Walk.cons
            · exact o_at24 rfl rfl rfl rfl (by decide)
            apply Walk.cons
            · exact o_store5 rfl rfl rfl rfl rfl (k := 31) (by decide) h2.2.1
            exact Walk.nil _
          case hck => kernel_rfl
          case hQ =>
            intro ρ A w1 h
            apply seq_dag hmix h
            case hw =>
              apply Walk.cons
              · exact o_load24 rfl rfl rfl rfl
              apply Walk.cons
              · exact o_alloc24 9 rfl rfl
              apply Walk.cons
              · exact o_store24 rfl rfl rfl rfl rfl
              exact Walk.nil _
            case hck => kernel_rfl
            case hQ =>
              intro ρ A w1 h
              apply seq_dag hmix h
              case hw =>
                apply Walk.cons
                · exact o_at24 rfl rfl rfl rfl (by decide)
                apply Walk.cons
                · exact o_load5 rfl rfl rfl rfl (k := 31) (by decide)
                apply Walk.cons
                · exact o_bin rfl rfl rfl rfl (r_xor (u8_xor_nat (byteOf u 31) 128 u31 (by decide)))
                apply Walk.cons
                · exact o_at24 rfl rfl rfl rfl (by decide)
                apply Walk.cons
                · exact o_store5 rfl rfl rfl rfl rfl (k := 31) (by decide) h3.1
                exact Walk.nil _
              case hck => kernel_rfl
              case hQ =>
                intro ρ A w1 h
                apply seq_dag hmix h
                case hw =>
                  apply Walk.cons
                  · exact o_load24 rfl rfl rfl rfl
                  apply Walk.cons
                  · exact o_alloc24 10 rfl rfl
                  apply Walk.cons
                  · exact o_store24 rfl rfl rfl rfl rfl
                  exact Walk.nil _
                case hck => kernel_rfl
                case hQ =>
                  intro ρ A w1 h
                  apply seq_dag hmix h
                  case hw =>
                    apply Walk.cons
                    · exact o_at24 rfl rfl rfl rfl (by decide)
                    apply Walk.cons
                    · exact o_load5 rfl rfl rfl rfl (k := 31) (by decide)
                    apply Walk.cons
                    · exact o_bin rfl rfl rfl rfl (r_rem8 (a := byteOf u 31) (b := 128) (by decide))
                    apply Walk.cons
                    · exact o_at24 rfl rfl rfl rfl (by decide)
                    apply Walk.cons
                    · exact o_store5 rfl rfl rfl rfl rfl (k := 31) (by decide) (mask_b u)
                    exact Walk.nil _
                  case hck => kernel_rfl
                  case hQ =>
                    intro ρ A w1 h
                    have h := h.plain ⟨[(3, .p 3 0), (4, .p 4 0), (7, .p 7 0), (8, .p 8 0), (9, .p 9 0), (10, .p 10 0)], [(3, ⟨bvc k, 24⟩), (4, ⟨bvc u, 24⟩), (7, ⟨bvc (timesP k u), 24⟩), (8, ⟨bvc (kTurn k y), 24⟩), (9, ⟨bvc (uTurn u), 24⟩), (10, ⟨bvc (maskP u), 24⟩)]⟩ ⟨rfl, rfl, rfl, rfl, rfl, rfl, trivial⟩ ⟨rfl, rfl, rfl, rfl, rfl, rfl, trivial⟩ rfl
                    have l1 := loose1 k u y
                    have l2 := loose2 k u
                    have l4 := loose4 k y
                    generalize kTurn k y = k2 at h l1 l4 hkt
                    generalize uTurn u = u2 at h l1 hut
                    generalize maskP u = u3 at h l2 hmu
                    apply seq_dag hmix h
                    case hw =>
                      apply Walk.cons
                      · exact o_load24 rfl rfl rfl rfl
                      apply Walk.cons
                      · exact o_canon24 rfl rfl rfl (by first | assumption | exact pp_lt _ | exact timesP_lt _ _ | exact clampP_lt _ | decide +kernel)
                      apply Walk.cons
                      · exact o_store24 rfl rfl rfl rfl rfl
                      exact Walk.nil _
                    case hck => kernel_rfl
                    case hQ =>
                      intro ρ A w1 h
                      apply seq_dag hmix h
                      case hw =>
                        apply Walk.cons
                        · exact o_load24 rfl rfl rfl rfl
                        apply Walk.cons
                        · exact o_load24 rfl rfl rfl rfl
                        apply Walk.cons
                        · exact o_times33 rfl rfl rfl (by first | assumption | exact pp_lt _ | exact timesP_lt _ _ | exact clampP_lt _ | decide +kernel) (by first | assumption | exact pp_lt _ | exact timesP_lt _ _ | exact clampP_lt _ | decide +kernel)
                        apply Walk.cons
                        · exact o_load24 rfl rfl rfl rfl
                        apply Walk.cons
                        · exact o_eql24 rfl rfl rfl rfl (by first | assumption | exact pp_lt _ | exact timesP_lt _ _ | exact clampP_lt _ | decide +kernel) (by first | assumption | exact pp_lt _ | exact timesP_lt _ _ | exact clampP_lt _ | decide +kernel) (decide_eq_true l1)
                        apply Walk.cons
                        · exact ok_move rfl rfl rfl
                        apply Walk.cons
                        · exact o_load24 rfl rfl rfl rfl
                        apply Walk.cons
                        · exact o_clamp rfl rfl rfl (by first | assumption | exact pp_lt _ | exact timesP_lt _ _ | exact clampP_lt _ | decide +kernel)
                        apply Walk.cons
                        · exact o_load24 rfl rfl rfl rfl
                        apply Walk.cons
                        · exact o_times33 rfl rfl rfl (by first | assumption | exact pp_lt _ | exact timesP_lt _ _ | exact clampP_lt _ | decide +kernel) (by first | assumption | exact pp_lt _ | exact timesP_lt _ _ | exact clampP_lt _ | decide +kernel)
                        apply Walk.cons
                        · exact o_load24 rfl rfl rfl rfl
                        apply Walk.cons
                        · exact o_eql24 rfl rfl rfl rfl (by first | assumption | exact pp_lt _ | exact timesP_lt _ _ | exact clampP_lt _ | decide +kernel) (by first | assumption | exact pp_lt _ | exact timesP_lt _ _ | exact clampP_lt _ | decide +kernel) (decide_eq_true l2)
                        apply Walk.cons
                        · exact ok_pick_true rfl rfl rfl rfl
                        apply Walk.cons
                        · exact ok_move rfl rfl rfl
                        apply Walk.cons
                        · exact o_load24 rfl rfl rfl rfl
                        apply Walk.cons
                        · exact o_canon rfl rfl rfl (by first | assumption | exact pp_lt _ | exact timesP_lt _ _ | exact clampP_lt _ | decide +kernel)
                        apply Walk.cons
                        · exact o_load24 rfl rfl rfl rfl
                        apply Walk.cons
                        · exact o_eql24 rfl rfl rfl rfl (by first | assumption | exact pp_lt _ | exact timesP_lt _ _ | exact clampP_lt _ | decide +kernel) (by first | assumption | exact pp_lt _ | exact timesP_lt _ _ | exact clampP_lt _ | decide +kernel) (decide_eq_true (loose3 k u))
                        apply Walk.cons
                        · exact ok_pick_true rfl rfl rfl rfl
                        apply Walk.cons
                        · exact ok_move rfl rfl rfl
                        apply Walk.cons
                        · exact o_load24 rfl rfl rfl rfl
                        apply Walk.cons
                        · exact o_clamp rfl rfl rfl (by first | assumption | exact pp_lt _ | exact timesP_lt _ _ | exact clampP_lt _ | decide +kernel)
                        apply Walk.cons
                        · exact o_clamp rfl rfl rfl (by first | assumption | exact pp_lt _ | exact timesP_lt _ _ | exact clampP_lt _ | decide +kernel)
                        apply Walk.cons
                        · exact o_load24 rfl rfl rfl rfl
                        apply Walk.cons
                        · exact o_clamp rfl rfl rfl (by first | assumption | exact pp_lt _ | exact timesP_lt _ _ | exact clampP_lt _ | decide +kernel)
                        apply Walk.cons
                        · exact o_eql24 rfl rfl rfl rfl (by first | assumption | exact pp_lt _ | exact timesP_lt _ _ | exact clampP_lt _ | decide +kernel) (by first | assumption | exact pp_lt _ | exact timesP_lt _ _ | exact clampP_lt _ | decide +kernel) (decide_eq_true l4)
                        apply Walk.cons
                        · exact ok_pick_true rfl rfl rfl rfl
                        apply Walk.cons
                        · exact ok_move rfl rfl rfl
                        apply Walk.cons
                        · exact ok_call_val rfl rfl fn34 [] rfl (rd := []) (fun ρ w _ _ => awake34_any w)
                        apply Walk.cons
                        · exact ok_pick_true rfl rfl rfl rfl
                        apply Walk.cons
                        · exact ok_assign rfl rfl rfl
                        exact Walk.nil _
                      case hck => kernel_rfl
                      case hQ =>
                        intro ρ A w1 h
                        refine wp_ret ?_
                        exact h.result_tmp Try.results11 rfl ⟨rfl, h.below⟩
end Go.Proofs.Ytnbdeajjfhlmnaa
