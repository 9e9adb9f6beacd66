/-
  aditref01.Sub.
-/
import Derived.Test.YtnbdeajjfhlmnaaRefs
namespace Go.Proofs.Ytnbdeajjfhlmnaa
open Go.RowKit

/-- cells of whole numbers, of either sign -/
def icz (f : Nat → Int) (n : Nat) : Array Value := ((List.range n).map fun j => Value.int .i64 (f j)).toArray
theorem icv_icz (f : Nat → Nat) (n : Nat) : icv f n = icz (fun j => (f j : Int)) n := by unfold icv icz; rfl
@[simp] theorem size_icz (f : Nat → Int) (n : Nat) : (icz f n).size = n := by simp [icz]
theorem icz_get (f : Nat → Int) (n j : Nat) (h : j < n) : (icz f n)[j]? = some (.int .i64 (f j)) := by simp [icz, h]
def updZ (f : Nat → Int) (k : Nat) (v : Int) : Nat → Int := fun j => if j = k then v else f j
theorem icz_set (f : Nat → Int) (n k : Nat) (v : Int) : (icz f n).setIfInBounds k (.int .i64 v) = icz (updZ f k v) n := by
  apply Array.ext_getElem?
  intro j
  rw [Array.getElem?_setIfInBounds]
  by_cases hj : j < n
  · rw [icz_get _ n j hj, icz_get _ n j hj]
    by_cases h : k = j
    · subst h; simp [updZ, hj]
    · simp [updZ, h, Ne.symm h]
  · have e1 : (icz f n)[j]? = none := by simp [icz, hj]
    have e2 : (icz (updZ f k v) n)[j]? = none := by simp [icz, hj]
    rw [e1, e2]
    by_cases h : k = j
    · subst h; simp [hj]
    · simp [h]
theorem icz_congr {f g : Nat → Int} {n : Nat} (h : ∀ j, j < n → f j = g j) : icz f n = icz g n := by
  apply Array.ext_getElem?
  intro j
  by_cases hj : j < n
  · rw [icz_get _ n j hj, icz_get _ n j hj, h j hj]
  · have e1 : (icz f n)[j]? = none := by simp [icz, hj]
    have e2 : (icz g n)[j]? = none := by simp [icz, hj]
    rw [e1, e2]
section
variable {F : Fr} {ops : Array Oper} {S : St} {o : Oper}
theorem o_load3z (hw : want ops S o = some true) {x : Operand} (ho : o.op = .load 3 x) {i j n t : Nat} {f : Nat → Int} (hx : S.av x = some (.p i j)) (hb : S.blk i = some ⟨icz f n, t⟩) (hj : j < n) :
    OpOK Try.prog F ops o S { val := .v (.int .i64 (f j)), rd := [i] } := ok_load_cell hw ho hx hb one3 (icz_get f n j hj)
theorem o_store3z (hw : want ops S o = some true) {x y : Operand} (ho : o.op = .store 3 x y) {i j n t : Nat} {v : Int} {f : Nat → Int} (hx : S.av x = some (.p i j)) (hy : S.av y = some (.v (.int .i64 v))) (hb : S.blk i = some ⟨icz f n, t⟩) (hj : j < n) :
    OpOK Try.prog F ops o S { val := .v undef, wr := some (i, ⟨icz (updZ f j v) n, t⟩), rd := [i] } := by
  rw [← icz_set]
  exact ok_store_cell hw ho hx hy hb sz3 rfl (by simpa using hj)
end
attribute [irreducible] icz
theorem r_addI {P : Program} {t : TypeId} {a b c : Int} (h : IntKind.i64.wrap (a + b) = c) (w : World) : (binOp .add t (.int .i64 a) (.int .i64 b)).run P w = .ok (.int .i64 c) w := by
  subst h; rfl
theorem wrapI {c : Int} (h0 : -9223372036854775808 ≤ c) (h1 : c < 9223372036854775808) : IntKind.i64.wrap c = c := by rw [IntKind.wrap_i64]; omega

/-- the limbs of the modulus -/
def limP (k : Nat) : Int := if k = 15 then 32767 else if k = 0 then 65517 else 65535
/-- the difference, limb by limb -/
def difZ (n m : Nat) (k : Nat) : Int := limbN n k + limP k - limbN m k
def difS (n m : Nat) (k : Nat) : Nat → Int := fun j => if j < k then difZ n m j else limF n 16 j
theorem difS_zero (n m : Nat) : (fun j => (limF n 16 j : Int)) = difS n m 0 := by funext j; simp [difS]
theorem difS_step (n m k : Nat) (hk : k < 16) : updZ (difS n m k) k (difS n m k k + limP k - limF m 16 k) = difS n m (k + 1) := by
  funext j
  have e1 : limF m 16 k = limbN m k := by simp [limF, hk]
  have e2 : limF n 16 k = limbN n k := by simp [limF, hk]
  simp only [updZ, difS]
  by_cases h : j = k
  · subst h; rw [if_pos rfl, if_neg (by omega), if_pos (by omega), e1, e2]; rfl
  · by_cases h2 : j < k
    · rw [if_neg h, if_pos h2, if_pos (by omega)]
    · rw [if_neg h, if_neg h2, if_neg (by omega)]
theorem limP_b (k : Nat) : 32767 ≤ limP k ∧ limP k ≤ 65535 := by
  unfold limP
  split
  · decide
  · split <;> decide
theorem difZ_b (n m k : Nat) : -65536 < difZ n m k ∧ difZ n m k < 131072 := by
  have h1 := limbN_lt n k
  have h2 := limbN_lt m k
  have h3 := limP_b k
  unfold difZ
  omega

/-! ### the borrow -/
/-- what limb k borrows -/
def borN (x : Nat → Int) : Nat → Int
  | 0 => 0
  | k + 1 => if x k - borN x k < 0 then 1 else 0
theorem borN_b (x : Nat → Int) (k : Nat) : 0 ≤ borN x k ∧ borN x k ≤ 1 := by
  cases k with
  | zero => simp [borN]
  | succ k =>
    rw [borN]
    split <;> decide
def outZ (x : Nat → Int) (k : Nat) : Int := x k - borN x k + 65536 * borN x (k + 1)
/-- after k limbs -/
def borS (x : Nat → Int) (k : Nat) : Nat → Int := fun j => if j < k then outZ x j else if j = k then x k - borN x k else x j
theorem borS_zero (x : Nat → Int) : x = borS x 0 := by
  funext j
  simp only [borS, borN]
  by_cases h : j = 0
  · subst h; simp
  · rw [if_neg (by omega), if_neg h]
/-- nothing borrowed -/
theorem borS_stay {x : Nat → Int} {k : Nat} (h : ¬ x k - borN x k < 0) : borS x k = borS x (k + 1) := by
  have hb : borN x (k + 1) = 0 := by rw [borN, if_neg h]
  funext j
  simp only [borS]
  by_cases h1 : j < k
  · rw [if_pos h1, if_pos (by omega)]
  · by_cases h2 : j = k
    · subst h2; rw [if_neg h1, if_pos rfl, if_pos (by omega), outZ, hb]; omega
    · rw [if_neg h1, if_neg h2, if_neg (by omega)]
      by_cases h3 : j = k + 1
      · rw [if_pos h3, hb, h3]; omega
      · rw [if_neg h3]
/-- one borrowed -/
theorem borS_take {x : Nat → Int} {k : Nat} (h : x k - borN x k < 0) : updZ (updZ (borS x k) k (borS x k k + 65536)) (k + 1) (updZ (borS x k) k (borS x k k + 65536) (k + 1) - 1) = borS x (k + 1) := by
  have hb : borN x (k + 1) = 1 := by rw [borN, if_pos h]
  funext j
  simp only [updZ, borS]
  by_cases h3 : j = k + 1
  · subst h3
    rw [if_pos rfl, if_neg (by omega), if_neg (by omega), if_neg (by omega), if_neg (by omega), if_pos rfl, hb]
  · by_cases h2 : j = k
    · subst h2
      rw [if_neg h3, if_pos rfl, if_neg (by omega), if_pos trivial, if_pos (by omega), outZ, hb]
      omega
    · by_cases h1 : j < k
      · rw [if_neg h3, if_neg h2, if_pos h1, if_pos (by omega)]
      · rw [if_neg h3, if_neg h2, if_neg h1, if_neg h2, if_neg (by omega), if_neg h3]
theorem borS_at (x : Nat → Int) (k : Nat) : borS x k k = x k - borN x k := by simp [borS]

def valZ (f : Nat → Int) : Nat → Int
  | 0 => 0
  | k + 1 => valZ f k + f k * 65536 ^ k
theorem pow_posZ (k : Nat) : (0 : Int) < 65536 ^ k := Int.pow_pos (by decide)
theorem out_val (x : Nat → Int) (k : Nat) : valZ (outZ x) k = valZ x k + borN x k * 65536 ^ k := by
  induction k with
  | zero => simp [valZ, borN]
  | succ k ih =>
    rw [valZ, valZ, ih, outZ, Int.pow_succ]
    generalize (65536 : Int) ^ k = B
    grind
/-- what has been borrowed against stays small -/
theorem out_low {x : Nat → Int} (h1 : ∀ k, 1 ≤ k → 0 ≤ x k) (k : Nat) (hb : borN x k = 1) : valZ (outZ x) k < 65536 ^ k := by
  induction k with
  | zero => exact absurd hb (by rw [borN]; decide)
  | succ k ih =>
    have hlt : x k - borN x k < 0 := by
      apply Classical.byContradiction
      intro h
      rw [borN, if_neg h] at hb
      exact absurd hb (by decide)
    have hbk := borN_b x k
    have hz : outZ x k ≤ 65535 := by rw [outZ, hb]; omega
    have hB := pow_posZ k
    have hm : outZ x k * 65536 ^ k ≤ 65535 * 65536 ^ k := Int.mul_le_mul_of_nonneg_right hz (by omega)
    have hlow : valZ (outZ x) k < 65536 ^ k := by
      by_cases hk : borN x k = 1
      · exact ih hk
      · have hk0 : borN x k = 0 := by omega
        have : k = 0 := by
          apply Classical.byContradiction
          intro h
          have := h1 k (by omega)
          omega
        subst this
        exact Int.zero_lt_one
    rw [valZ, Int.pow_succ]
    generalize (65536 : Int) ^ k = B at *
    omega
theorem out_nonneg {x : Nat → Int} (h0 : -65536 < x 0) (h1 : ∀ k, 1 ≤ k → 0 ≤ x k) (k : Nat) : 0 ≤ outZ x k := by
  have hb := borN_b x k
  rw [outZ, borN]
  by_cases hk : k = 0
  · subst hk
    have e : borN x 0 = 0 := rfl
    rw [e]
    by_cases h : x 0 - 0 < 0
    · rw [if_pos h]; omega
    · rw [if_neg h]; omega
  · have := h1 k (by omega)
    by_cases h : x k - borN x k < 0
    · rw [if_pos h]; omega
    · rw [if_neg h]; omega
/-- the limbs behind: none is below zero -/
theorem out_top {x : Nat → Int} (h1 : ∀ k, 1 ≤ k → 0 ≤ x k) (hpos : 0 ≤ valZ x 16) : 0 ≤ x 15 - borN x 15 := by
  apply Classical.byContradiction
  intro h
  have hx := h1 15 (by decide)
  have hb := borN_b x 15
  have hb1 : borN x 15 = 1 := by omega
  have hlow := out_low h1 15 hb1
  rw [out_val, hb1] at hlow
  rw [valZ] at hpos
  have hx15 : x 15 = 0 := by omega
  rw [hx15] at hpos
  omega

theorem valZ_congr {f g : Nat → Int} (k : Nat) (h : ∀ j, j < k → f j = g j) : valZ f k = valZ g k := by
  induction k with
  | zero => rfl
  | succ k ih => rw [valZ, valZ, ih (fun j hj => h j (by omega)), h k (by omega)]
theorem valZ_nat (f : Nat → Nat) (k : Nat) : valZ (fun j => (f j : Int)) k = (valN f k : Int) := by
  induction k with
  | zero => rfl
  | succ k ih => rw [valZ, valN, ih, Int.natCast_add, Int.natCast_mul, Int.natCast_pow]; rfl
theorem valZ_dif (a b c : Nat → Int) (k : Nat) : valZ (fun j => a j + b j - c j) k = valZ a k + valZ b k - valZ c k := by
  induction k with
  | zero => rfl
  | succ k ih =>
    rw [valZ, valZ, valZ, valZ, ih]
    generalize (65536 : Int) ^ k = B
    grind
theorem limP_val : valZ limP 16 = (pp : Int) := by decide +kernel
theorem limb_valZ {n : Nat} (hn : n < 2 ^ 256) : valZ (fun j => (limbN n j : Int)) 16 = (n : Int) := by
  rw [valZ_nat, valN_limb, Nat.mod_eq_of_lt]
  rw [show (65536 : Nat) ^ 16 = 2 ^ 256 by decide]
  exact hn
theorem dif_valZ {n m : Nat} (hn : n < 2 ^ 256) (hm : m < 2 ^ 256) : valZ (difZ n m) 16 = (n : Int) + pp - m := by
  rw [show difZ n m = fun j => (limbN n j : Int) + limP j - limbN m j from rfl, valZ_dif, limb_valZ hn, limb_valZ hm, limP_val]
theorem dif_pos {n m : Nat} (hm : m < pp) (k : Nat) (h1 : 1 ≤ k) : 0 ≤ difZ n m k := by
  have hl := limbN_lt m k
  unfold difZ limP
  by_cases hk : k = 15
  · subst hk
    have h2 : limbN m 15 ≤ 32767 := by
      rw [limbN_eq, p15]
      rw [pp_lit] at hm
      omega
    rw [if_pos rfl]
    omega
  · rw [if_neg hk, if_neg (by omega)]
    omega
def endN (x : Nat → Int) (j : Nat) : Nat := (borS x 15 j).toNat
theorem end_icz {x : Nat → Int} (h0 : -65536 < x 0) (h1 : ∀ k, 1 ≤ k → 0 ≤ x k) (hpos : 0 ≤ valZ x 16) : icz (borS x 15) 16 = icv (endN x) 16 := by
  rw [icv_icz]
  refine icz_congr fun j hj => ?_
  have : 0 ≤ borS x 15 j := by
    simp only [borS]
    by_cases hj2 : j < 15
    · rw [if_pos hj2]; exact out_nonneg h0 h1 j
    · obtain rfl : j = 15 := by omega
      rw [if_neg (by omega), if_pos rfl]; exact out_top h1 hpos
  rw [endN, Int.toNat_of_nonneg this]
theorem end_val {x : Nat → Int} (h0 : -65536 < x 0) (h1 : ∀ k, 1 ≤ k → 0 ≤ x k) (hpos : 0 ≤ valZ x 16) : (valN (endN x) 16 : Int) = valZ x 16 := by
  rw [← valZ_nat]
  have e : valZ (fun j => (endN x j : Int)) 16 = valZ (borS x 15) 16 := valZ_congr 16 fun j hj => by
    have : 0 ≤ borS x 15 j := by
      simp only [borS]
      by_cases hj2 : j < 15
      · rw [if_pos hj2]; exact out_nonneg h0 h1 j
      · obtain rfl : j = 15 := by omega
        rw [if_neg (by omega), if_pos rfl]; exact out_top h1 hpos
    rw [endN, Int.toNat_of_nonneg this]
  have e2 : valZ (borS x 15) 15 = valZ (outZ x) 15 := valZ_congr 15 fun j hj => by simp [borS, hj]
  have e3 : valZ x 16 = valZ x 15 + x 15 * 65536 ^ 15 := rfl
  have e4 : valZ (borS x 15) 16 = valZ (borS x 15) 15 + borS x 15 15 * 65536 ^ 15 := rfl
  rw [e, e4, e2, borS_at, out_val, e3]
  generalize (65536 : Int) ^ 15 = B
  grind
theorem end_lt {x : Nat → Int} (hb : ∀ k, x k < 131072) (j : Nat) : endN x j < 1099511627776 := by
  have h1 := hb j
  have h2 := borN_b x j
  have h3 := borN_b x (j + 1)
  have : borS x 15 j < 1099511627776 := by
    simp only [borS]
    split
    · rw [outZ]; omega
    · split
      · rename_i hj
        subst hj
        omega
      · omega
  rw [endN]
  omega

def subS26 (n m k : Nat) : St := ⟨[(4, .p 4 0), (5, .s 11 0 16 16), (6, .s 14 0 16 16), (7, .v (.int .i64 k))], [(4, ⟨bvc 0, 24⟩), (11, ⟨icz (difS n m k) 16, 3⟩), (14, ⟨icv (limF m 16) 16, 3⟩)]⟩
def borT (x : Nat → Int) (k : Nat) : St := ⟨[(4, .p 4 0), (5, .s 11 0 16 16), (9, .v (.int .i64 k))], [(4, ⟨bvc 0, 24⟩), (11, ⟨icz (borS x k) 16, 3⟩)]⟩
def borU (x : Nat → Int) (k j : Nat) : St := ⟨[(4, .p 4 0), (5, .s 11 0 16 16), (9, .v (.int .i64 k))], [(4, ⟨bvc 0, 24⟩), (11, ⟨icz (borS x (k + j)) 16, 3⟩)]⟩
set_option maxRecDepth 20000 in
set_option maxHeartbeats 1000000 in
theorem sub26_any (n m0 : Nat) (hn : n < 2 ^ 256) (hm0 : m0 < 2 ^ 256) (w : World) : Calls Try.prog 26 #[bv n, bv m0] w fun e w' => e = .returned (bv (subP n m0)) ∧ Below w.heap.size w w' := by
  go_enter Try.func26, Try.ntmps26
  have h := Rep.start (N := 66) [bv n, bv m0] [undef, undef, undef, undef, undef, undef, undef, undef, undef, undef, undef, undef, undef, undef, undef, undef, undef, undef, undef, undef, undef, undef, undef, undef, undef, undef, undef, undef, undef, undef, undef, undef, undef, undef, undef, undef, undef, undef, undef, undef, undef, undef, undef, undef, undef, undef, undef, undef, undef, undef, undef, undef, undef, undef, undef, undef, undef, undef, undef, undef, undef, undef, undef, undef] w rfl
  apply seq_dag hmix h
  case hw =>
    apply Walk.cons
    · exact o_box24 2 rfl rfl rfl
    apply Walk.cons
    · exact o_box24 3 rfl rfl rfl
    apply Walk.cons
    · exact o_alloc24 4 rfl rfl
    exact Walk.nil _
  case hck => kernel_rfl
  case hQ =>
    intro ρ A w1 h
    apply seq_dag hmix h
    case hw =>
      apply Walk.cons
      · exact o_load24 rfl rfl rfl rfl
      apply Walk.cons
      · exact ok_call_new 11 rfl rfl fn49 [.v _] rfl (rd := []) (fun ρ w1 _ _ => load49_any _ w1)
      apply Walk.cons
      · exact ok_assign rfl rfl rfl
      exact Walk.nil _
    case hck => kernel_rfl
    case hQ =>
      intro ρ A w1 h
      apply seq_dag hmix h
      case hw =>
        apply Walk.cons
        · exact o_load24 rfl rfl rfl rfl
        apply Walk.cons
        · exact o_canon24 rfl rfl rfl (by first | assumption | exact pp_lt _ | exact subP_lt _ _ | exact powP_lt _ _ | decide +kernel)
        apply Walk.cons
        · exact ok_call_new 14 rfl rfl fn49 [.v _] rfl (rd := []) (fun ρ w1 _ _ => load49_any _ w1)
        apply Walk.cons
        · exact ok_assign rfl rfl rfl
        exact Walk.nil _
      case hck => kernel_rfl
      case hQ =>
        intro ρ A w1 h
        refine wp_seq ?_
        apply seq_dag hmix h
        case hw =>
          apply Walk.cons
          · exact ok_assign rfl rfl rfl
          exact Walk.nil _
        case hck => kernel_rfl
        case hQ =>
          intro ρ A w1 h
          have hsub : subP n m0 = (n + (pp - m0 % pp)) % pp := rfl
          have hm : m0 % pp < pp := Nat.mod_lt _ (by decide)
          generalize m0 % pp = m at h hsub hm
          have hm6 : m < 2 ^ 256 := Nat.lt_trans hm (by decide)
          have h := h.plain (subS26 n m 0) ⟨rfl, rfl, rfl, rfl, trivial⟩ ⟨rfl, by rw [← difS_zero, ← icv_icz]; rfl, rfl, trivial⟩ rfl
          refine wp_block ?_
          refine rep_loop 16 (subS26 n m) h ?_
          intro k ρ A w2 hk h
          have hd := difZ_b n m k
          have hmk := limF_lt m 16 k
          have hpk := limP_b k
          by_cases hlt : k < 16
          · have hdk : difS n m k k = limbN n k := by simp [difS, limF, hlt]
            have hnk := limbN_lt n k
            have hcase : k = 0 ∨ k = 15 ∨ (k ≠ 0 ∧ k ≠ 15) := by omega
            rcases hcase with rfl | rfl | ⟨hk0, hk15⟩
            · refine wp_seq ?_
              apply seq_dag hmix h
              case hw =>
                apply Walk.cons
                · exact ok_move rfl rfl rfl
                apply Walk.cons
                · exact o_bin rfl rfl rfl rfl (r_lss (a := 0) (b := 16) (decide_eq_true (by omega)))
                exact Walk.nil _
              case hck => kernel_rfl
              case hQ =>
                intro ρ A w1 h
                refine if_true' h rfl (wp_skip ?_)
                refine Exit.then_normal ?_
                refine wp_seq (wp_block ?_)
                apply seq_dag hmix h
                case hw =>
                  apply Walk.cons
                  · exact ok_assign rfl rfl rfl
                  exact Walk.nil _
                case hck => kernel_rfl
                case hQ =>
                  intro ρ A w1 h
                  refine wp_seq (wp_seq ?_)
                  apply region_dag hmix h
                  case hw =>
                    apply Walk.cons
                    · exact ok_move rfl rfl rfl
                    apply Walk.cons
                    · exact o_bin rfl rfl rfl rfl (r_eqli (a := 0) (b := 0) (decide_eq_true rfl))
                    exact Walk.nil _
                  case hck => kernel_rfl
                  case hQ =>
                    intro ρ A w1 h
                    refine if_true' h rfl ?_
                    apply region_dag hmix h
                    case hw =>
                      apply Walk.cons
                      · exact ok_assign rfl rfl rfl
                      exact Walk.nil _
                    case hck => kernel_rfl
                    case hQ =>
                      intro ρ A w1 h
                      refine Exit.then_normal ?_
                      refine wp_seq (wp_seq ?_)
                      apply region_dag hmix h
                      case hw =>
                        apply Walk.cons
                        · exact ok_move rfl rfl rfl
                        apply Walk.cons
                        · exact o_bin rfl rfl rfl rfl (r_eqli (a := 0) (b := 15) (decide_eq_false (by omega)))
                        exact Walk.nil _
                      case hck => kernel_rfl
                      case hQ =>
                        intro ρ A w1 h
                        refine if_false' h rfl (wp_skip ?_)
                        refine Exit.then_normal ?_
                        have hlp : limP 0 = 65517 := rfl
                        apply region_dag hmix h
                        case hw =>
                          apply Walk.cons
                          · exact ok_move rfl rfl rfl
                          apply Walk.cons
                          · exact ok_move rfl rfl rfl
                          apply Walk.cons
                          · exact ok_move rfl rfl rfl
                          apply Walk.cons
                          · exact ok_move rfl rfl rfl
                          apply Walk.cons
                          · exact o_at46z rfl rfl rfl rfl (j := 0) (by omega)
                          apply Walk.cons
                          · exact o_load3z rfl rfl rfl rfl (by omega)
                          apply Walk.cons
                          · exact ok_move rfl rfl rfl
                          apply Walk.cons
                          · exact o_bin rfl rfl rfl rfl (r_addI (a := difS n m 0 0) (b := 65517) (c := difS n m 0 0 + limP 0) (by rw [hlp]; exact wrapI (by omega) (by omega)))
                          apply Walk.cons
                          · exact ok_move rfl rfl rfl
                          apply Walk.cons
                          · exact ok_move rfl rfl rfl
                          apply Walk.cons
                          · exact o_at46z rfl rfl rfl rfl (j := 0) (by omega)
                          apply Walk.cons
                          · exact o_load3 rfl rfl rfl rfl (by omega)
                          apply Walk.cons
                          · exact o_bin rfl rfl rfl rfl (r_subI (a := difS n m 0 0 + limP 0) (b := (limF m 16 0 : Int)) (c := difS n m 0 0 + limP 0 - limF m 16 0) (wrapI (by omega) (by omega)))
                          apply Walk.cons
                          · exact o_at46z rfl rfl rfl rfl (j := 0) (by omega)
                          apply Walk.cons
                          · exact o_store3z rfl rfl rfl rfl rfl (j := 0) (by omega)
                          exact Walk.nil _
                        case hck => kernel_rfl
                        case hQ =>
                          intro ρ A w1 h
                          refine Exit.block_normal (Exit.then_normal ?_)
                          apply region_dag hmix h
                          case hw =>
                            apply Walk.cons
                            · exact ok_move rfl rfl rfl
                            apply Walk.cons
                            · exact o_bin rfl rfl rfl rfl (r_addi (a := 0) (b := 1) (by omega))
                            apply Walk.cons
                            · exact ok_assign rfl rfl rfl
                            exact Walk.nil _
                          case hck => kernel_rfl
                          case hQ =>
                            intro ρ A w1 h
                            exact ⟨_, by omega, h.plain (subS26 n m 1) ⟨rfl, rfl, rfl, rfl, trivial⟩ ⟨rfl, by rw [show difS n m 1 = _ from (difS_step n m 0 (by omega)).symm]; rfl, rfl, trivial⟩ rfl⟩
            · refine wp_seq ?_
              apply seq_dag hmix h
              case hw =>
                apply Walk.cons
                · exact ok_move rfl rfl rfl
                apply Walk.cons
                · exact o_bin rfl rfl rfl rfl (r_lss (a := 15) (b := 16) (decide_eq_true (by omega)))
                exact Walk.nil _
              case hck => kernel_rfl
              case hQ =>
                intro ρ A w1 h
                refine if_true' h rfl (wp_skip ?_)
                refine Exit.then_normal ?_
                refine wp_seq (wp_block ?_)
                apply seq_dag hmix h
                case hw =>
                  apply Walk.cons
                  · exact ok_assign rfl rfl rfl
                  exact Walk.nil _
                case hck => kernel_rfl
                case hQ =>
                  intro ρ A w1 h
                  refine wp_seq (wp_seq ?_)
                  apply region_dag hmix h
                  case hw =>
                    apply Walk.cons
                    · exact ok_move rfl rfl rfl
                    apply Walk.cons
                    · exact o_bin rfl rfl rfl rfl (r_eqli (a := 15) (b := 0) (decide_eq_false (by omega)))
                    exact Walk.nil _
                  case hck => kernel_rfl
                  case hQ =>
                    intro ρ A w1 h
                    refine if_false' h rfl (wp_skip ?_)
                    refine Exit.then_normal ?_
                    refine wp_seq (wp_seq ?_)
                    apply region_dag hmix h
                    case hw =>
                      apply Walk.cons
                      · exact ok_move rfl rfl rfl
                      apply Walk.cons
                      · exact o_bin rfl rfl rfl rfl (r_eqli (a := 15) (b := 15) (decide_eq_true rfl))
                      exact Walk.nil _
                    case hck => kernel_rfl
                    case hQ =>
                      intro ρ A w1 h
                      refine if_true' h rfl ?_
                      apply region_dag hmix h
                      case hw =>
                        apply Walk.cons
                        · exact ok_assign rfl rfl rfl
                        exact Walk.nil _
                      case hck => kernel_rfl
                      case hQ =>
                        intro ρ A w1 h
                        refine Exit.then_normal ?_
                        have hlp : limP 15 = 32767 := rfl
                        apply region_dag hmix h
                        case hw =>
                          apply Walk.cons
                          · exact ok_move rfl rfl rfl
                          apply Walk.cons
                          · exact ok_move rfl rfl rfl
                          apply Walk.cons
                          · exact ok_move rfl rfl rfl
                          apply Walk.cons
                          · exact ok_move rfl rfl rfl
                          apply Walk.cons
                          · exact o_at46z rfl rfl rfl rfl (j := 15) (by omega)
                          apply Walk.cons
                          · exact o_load3z rfl rfl rfl rfl (by omega)
                          apply Walk.cons
                          · exact ok_move rfl rfl rfl
                          apply Walk.cons
                          · exact o_bin rfl rfl rfl rfl (r_addI (a := difS n m 15 15) (b := 32767) (c := difS n m 15 15 + limP 15) (by rw [hlp]; exact wrapI (by omega) (by omega)))
                          apply Walk.cons
                          · exact ok_move rfl rfl rfl
                          apply Walk.cons
                          · exact ok_move rfl rfl rfl
                          apply Walk.cons
                          · exact o_at46z rfl rfl rfl rfl (j := 15) (by omega)
                          apply Walk.cons
                          · exact o_load3 rfl rfl rfl rfl (by omega)
                          apply Walk.cons
                          · exact o_bin rfl rfl rfl rfl (r_subI (a := difS n m 15 15 + limP 15) (b := (limF m 16 15 : Int)) (c := difS n m 15 15 + limP 15 - limF m 16 15) (wrapI (by omega) (by omega)))
                          apply Walk.cons
                          · exact o_at46z rfl rfl rfl rfl (j := 15) (by omega)
                          apply Walk.cons
                          · exact o_store3z rfl rfl rfl rfl rfl (j := 15) (by omega)
                          exact Walk.nil _
                        case hck => kernel_rfl
                        case hQ =>
                          intro ρ A w1 h
                          refine Exit.block_normal (Exit.then_normal ?_)
                          apply region_dag hmix h
                          case hw =>
                            apply Walk.cons
                            · exact ok_move rfl rfl rfl
                            apply Walk.cons
                            · exact o_bin rfl rfl rfl rfl (r_addi (a := 15) (b := 1) (by omega))
                            apply Walk.cons
                            · exact ok_assign rfl rfl rfl
                            exact Walk.nil _
                          case hck => kernel_rfl
                          case hQ =>
                            intro ρ A w1 h
                            exact ⟨_, by omega, h.plain (subS26 n m 16) ⟨rfl, rfl, rfl, rfl, trivial⟩ ⟨rfl, by rw [show difS n m 16 = _ from (difS_step n m 15 (by omega)).symm]; rfl, rfl, trivial⟩ rfl⟩
            · refine wp_seq ?_
              apply seq_dag hmix h
              case hw =>
                apply Walk.cons
                · exact ok_move rfl rfl rfl
                apply Walk.cons
                · exact o_bin rfl rfl rfl rfl (r_lss (a := k) (b := 16) (decide_eq_true (by omega)))
                exact Walk.nil _
              case hck => kernel_rfl
              case hQ =>
                intro ρ A w1 h
                refine if_true' h rfl (wp_skip ?_)
                refine Exit.then_normal ?_
                refine wp_seq (wp_block ?_)
                apply seq_dag hmix h
                case hw =>
                  apply Walk.cons
                  · exact ok_assign rfl rfl rfl
                  exact Walk.nil _
                case hck => kernel_rfl
                case hQ =>
                  intro ρ A w1 h
                  refine wp_seq (wp_seq ?_)
                  apply region_dag hmix h
                  case hw =>
                    apply Walk.cons
                    · exact ok_move rfl rfl rfl
                    apply Walk.cons
                    · exact o_bin rfl rfl rfl rfl (r_eqli (a := k) (b := 0) (decide_eq_false (by omega)))
                    exact Walk.nil _
                  case hck => kernel_rfl
                  case hQ =>
                    intro ρ A w1 h
                    refine if_false' h rfl (wp_skip ?_)
                    refine Exit.then_normal ?_
                    refine wp_seq (wp_seq ?_)
                    apply region_dag hmix h
                    case hw =>
                      apply Walk.cons
                      · exact ok_move rfl rfl rfl
                      apply Walk.cons
                      · exact o_bin rfl rfl rfl rfl (r_eqli (a := k) (b := 15) (decide_eq_false (by omega)))
                      exact Walk.nil _
                    case hck => kernel_rfl
                    case hQ =>
                      intro ρ A w1 h
                      refine if_false' h rfl (wp_skip ?_)
                      refine Exit.then_normal ?_
                      have hlp : limP k = 65535 := by rw [limP, if_neg hk15, if_neg hk0]
                      apply region_dag hmix h
                      case hw =>
                        apply Walk.cons
                        · exact ok_move rfl rfl rfl
                        apply Walk.cons
                        · exact ok_move rfl rfl rfl
                        apply Walk.cons
                        · exact ok_move rfl rfl rfl
                        apply Walk.cons
                        · exact ok_move rfl rfl rfl
                        apply Walk.cons
                        · exact o_at46z rfl rfl rfl rfl (j := k) (by omega)
                        apply Walk.cons
                        · exact o_load3z rfl rfl rfl rfl (by omega)
                        apply Walk.cons
                        · exact ok_move rfl rfl rfl
                        apply Walk.cons
                        · exact o_bin rfl rfl rfl rfl (r_addI (a := difS n m k k) (b := 65535) (c := difS n m k k + limP k) (by rw [hlp]; exact wrapI (by omega) (by omega)))
                        apply Walk.cons
                        · exact ok_move rfl rfl rfl
                        apply Walk.cons
                        · exact ok_move rfl rfl rfl
                        apply Walk.cons
                        · exact o_at46z rfl rfl rfl rfl (j := k) (by omega)
                        apply Walk.cons
                        · exact o_load3 rfl rfl rfl rfl (by omega)
                        apply Walk.cons
                        · exact o_bin rfl rfl rfl rfl (r_subI (a := difS n m k k + limP k) (b := (limF m 16 k : Int)) (c := difS n m k k + limP k - limF m 16 k) (wrapI (by omega) (by omega)))
                        apply Walk.cons
                        · exact o_at46z rfl rfl rfl rfl (j := k) (by omega)
                        apply Walk.cons
                        · exact o_store3z rfl rfl rfl rfl rfl (j := k) (by omega)
                        exact Walk.nil _
                      case hck => kernel_rfl
                      case hQ =>
                        intro ρ A w1 h
                        refine Exit.block_normal (Exit.then_normal ?_)
                        apply region_dag hmix h
                        case hw =>
                          apply Walk.cons
                          · exact ok_move rfl rfl rfl
                          apply Walk.cons
                          · exact o_bin rfl rfl rfl rfl (r_addi (a := k) (b := 1) (by omega))
                          apply Walk.cons
                          · exact ok_assign rfl rfl rfl
                          exact Walk.nil _
                        case hck => kernel_rfl
                        case hQ =>
                          intro ρ A w1 h
                          exact ⟨_, by omega, h.plain (subS26 n m (k + 1)) ⟨rfl, rfl, rfl, rfl, trivial⟩ ⟨rfl, by rw [show difS n m (k + 1) = _ from (difS_step n m k (by omega)).symm]; rfl, rfl, trivial⟩ rfl⟩
          · obtain rfl : k = 16 := by omega
            refine wp_seq ?_
            apply seq_dag hmix h
            case hw =>
              apply Walk.cons
              · exact ok_move rfl rfl rfl
              apply Walk.cons
              · exact o_bin rfl rfl rfl rfl (r_lss (a := 16) (b := 16) (decide_eq_false hlt))
              exact Walk.nil _
            case hck => kernel_rfl
            case hQ =>
              intro ρ A w1 h
              refine if_false' h rfl (wp_exit (at_exit' ?_))
              refine Exit.then_normal ?_
              refine wp_seq ?_
              apply seq_dag hmix h
              case hw =>
                apply Walk.cons
                · exact ok_assign rfl rfl rfl
                exact Walk.nil _
              case hck => kernel_rfl
              case hQ =>
                intro ρ A w1 h
                have e16 : icz (difS n m 16) 16 = icz (borS (difZ n m) 0) 16 := by rw [← borS_zero]; exact icz_congr fun j hj => by simp [difS, hj]
                have h := h.plain (borT (difZ n m) 0) ⟨rfl, rfl, rfl, trivial⟩ ⟨rfl, by rw [← e16]; rfl, trivial⟩ rfl
                have hx0 := (difZ_b n m 0).1
                have hx1 : ∀ k, 1 ≤ k → 0 ≤ difZ n m k := fun k h1 => dif_pos hm k h1
                have hxb : ∀ k, difZ n m k < 131072 := fun k => (difZ_b n m k).2
                have hval := dif_valZ hn hm6
                have hposv : 0 ≤ valZ (difZ n m) 16 := by rw [hval]; omega
                have hxl : ∀ k, -65536 < difZ n m k := fun k => (difZ_b n m k).1
                generalize difZ n m = x at h hx0 hx1 hxb hval hposv hxl
                refine wp_block ?_
                refine rep_loop 15 (borT x) h ?_
                intro k ρ A w3 hk h
                have hb1 := borN_b x k
                have hb2 := borN_b x (k + 1)
                have hxk := hxb k
                have hxk1 := hxb (k + 1)
                have hxl0 := hxl k
                have hxl1 := hxl (k + 1)
                have hat := borS_at x k
                by_cases hlt : k < 15
                · by_cases hneg : x k - borN x k < 0
                  · refine wp_seq ?_
                    apply seq_dag hmix h
                    case hw =>
                      apply Walk.cons
                      · exact ok_move rfl rfl rfl
                      apply Walk.cons
                      · exact o_bin rfl rfl rfl rfl (r_lss (a := k) (b := 15) (decide_eq_true hlt))
                      exact Walk.nil _
                    case hck => kernel_rfl
                    case hQ =>
                      intro ρ A w1 h
                      refine if_true' h rfl (wp_skip ?_)
                      refine Exit.then_normal ?_
                      refine wp_seq (wp_block ?_)
                      refine wp_block ?_
                      refine rep_loop 1 (borU x k) (h.plain (borU x k 0) ⟨rfl, rfl, rfl, trivial⟩ ⟨rfl, rfl, trivial⟩ rfl) ?_
                      intro j ρ A w4 hj h
                      by_cases hj0 : j = 0
                      · subst hj0
                        have h := h.plain (borT x k) ⟨rfl, rfl, rfl, trivial⟩ ⟨rfl, rfl, trivial⟩ rfl
                        refine wp_seq ?_
                        apply seq_dag hmix h
                        case hw =>
                          apply Walk.cons
                          · exact ok_move rfl rfl rfl
                          apply Walk.cons
                          · exact ok_move rfl rfl rfl
                          apply Walk.cons
                          · exact o_at46z rfl rfl rfl rfl (j := k) (by omega)
                          apply Walk.cons
                          · exact o_load3z rfl rfl rfl rfl (by omega)
                          apply Walk.cons
                          · exact o_bin rfl rfl rfl rfl (r_lssI (a := borS x k k) (b := 0) (decide_eq_true (by omega)))
                          exact Walk.nil _
                        case hck => kernel_rfl
                        case hQ =>
                          intro ρ A w1 h
                          refine if_true' h rfl (wp_skip ?_)
                          refine Exit.then_normal ?_
                          refine wp_block ?_
                          apply seq_dag hmix h
                          case hw =>
                            apply Walk.cons
                            · exact ok_move rfl rfl rfl
                            apply Walk.cons
                            · exact ok_move rfl rfl rfl
                            apply Walk.cons
                            · exact ok_move rfl rfl rfl
                            apply Walk.cons
                            · exact ok_move rfl rfl rfl
                            apply Walk.cons
                            · exact o_at46z rfl rfl rfl rfl (j := k) (by omega)
                            apply Walk.cons
                            · exact o_load3z rfl rfl rfl rfl (by omega)
                            apply Walk.cons
                            · exact o_bin rfl rfl rfl rfl (r_addI (a := borS x k k) (b := 65536) (c := borS x k k + 65536) (wrapI (by omega) (by omega)))
                            apply Walk.cons
                            · exact o_at46z rfl rfl rfl rfl (j := k) (by omega)
                            apply Walk.cons
                            · exact o_store3z rfl rfl rfl rfl rfl (j := k) (by omega)
                            exact Walk.nil _
                          case hck => kernel_rfl
                          case hQ =>
                            intro ρ A w1 h
                            have hu : updZ (borS x k) k (borS x k k + 65536) (k + 1) = x (k + 1) := by simp only [updZ, borS]; rw [if_neg (by omega), if_neg (by omega), if_neg (by omega)]
                            apply region_dag hmix h
                            case hw =>
                              apply Walk.cons
                              · exact ok_move rfl rfl rfl
                              apply Walk.cons
                              · exact ok_move rfl rfl rfl
                              apply Walk.cons
                              · exact o_bin rfl rfl rfl rfl (r_addi (a := k) (b := 1) (by omega))
                              apply Walk.cons
                              · exact ok_move rfl rfl rfl
                              apply Walk.cons
                              · exact ok_move rfl rfl rfl
                              apply Walk.cons
                              · exact o_bin rfl rfl rfl rfl (r_addi (a := k) (b := 1) (by omega))
                              apply Walk.cons
                              · exact o_at46z rfl rfl rfl rfl (j := k + 1) (by omega)
                              apply Walk.cons
                              · exact o_load3z rfl rfl rfl rfl (j := k + 1) (by omega)
                              apply Walk.cons
                              · exact o_bin rfl rfl rfl rfl (r_subI (a := updZ (borS x k) k (borS x k k + 65536) (k + 1)) (b := 1) (c := updZ (borS x k) k (borS x k k + 65536) (k + 1) - 1) (wrapI (by omega) (by omega)))
                              apply Walk.cons
                              · exact o_at46z rfl rfl rfl rfl (j := k + 1) (by omega)
                              apply Walk.cons
                              · exact o_store3z rfl rfl rfl rfl rfl (j := k + 1) (by omega)
                              exact Walk.nil _
                            case hck => kernel_rfl
                            case hQ =>
                              intro ρ A w1 h
                              refine Exit.block_normal ?_
                              exact ⟨_, by decide, h.plain (borU x k 1) ⟨rfl, rfl, rfl, trivial⟩ ⟨rfl, by rw [show borS x (k + 1) = _ from (borS_take hneg).symm]; rfl, trivial⟩ rfl⟩
                      · obtain rfl : j = 1 := by omega
                        have hout := out_nonneg hx0 hx1 k
                        have hbo : borS x (k + 1) k = outZ x k := by simp [borS]
                        have h := h.plain (⟨[(4, .p 4 0), (5, .s 11 0 16 16), (9, .v (.int .i64 k))], [(4, ⟨bvc 0, 24⟩), (11, ⟨icz (borS x (k + 1)) 16, 3⟩)]⟩) ⟨rfl, rfl, rfl, trivial⟩ ⟨rfl, rfl, trivial⟩ rfl
                        refine wp_seq ?_
                        apply seq_dag hmix h
                        case hw =>
                          apply Walk.cons
                          · exact ok_move rfl rfl rfl
                          apply Walk.cons
                          · exact ok_move rfl rfl rfl
                          apply Walk.cons
                          · exact o_at46z rfl rfl rfl rfl (j := k) (by omega)
                          apply Walk.cons
                          · exact o_load3z rfl rfl rfl rfl (by omega)
                          apply Walk.cons
                          · exact o_bin rfl rfl rfl rfl (r_lssI (a := borS x (k + 1) k) (b := 0) (decide_eq_false (by omega)))
                          exact Walk.nil _
                        case hck => kernel_rfl
                        case hQ =>
                          intro ρ A w1 h
                          refine if_false' h rfl (wp_exit (at_exit' ?_))
                          refine Exit.block_normal (Exit.then_normal ?_)
                          apply region_dag hmix h
                          case hw =>
                            apply Walk.cons
                            · exact ok_move rfl rfl rfl
                            apply Walk.cons
                            · exact o_bin rfl rfl rfl rfl (r_addi (a := k) (b := 1) (by omega))
                            apply Walk.cons
                            · exact ok_assign rfl rfl rfl
                            exact Walk.nil _
                          case hck => kernel_rfl
                          case hQ =>
                            intro ρ A w1 h
                            exact ⟨_, hlt, h.plain (borT x (k + 1)) ⟨rfl, rfl, rfl, trivial⟩ ⟨rfl, rfl, trivial⟩ rfl⟩
                  · refine wp_seq ?_
                    apply seq_dag hmix h
                    case hw =>
                      apply Walk.cons
                      · exact ok_move rfl rfl rfl
                      apply Walk.cons
                      · exact o_bin rfl rfl rfl rfl (r_lss (a := k) (b := 15) (decide_eq_true hlt))
                      exact Walk.nil _
                    case hck => kernel_rfl
                    case hQ =>
                      intro ρ A w1 h
                      refine if_true' h rfl (wp_skip ?_)
                      refine Exit.then_normal ?_
                      refine wp_seq (wp_block ?_)
                      refine wp_block ?_
                      refine rep_loop 0 (fun _ => borT x k) (h.plain (borT x k) ⟨rfl, rfl, rfl, trivial⟩ ⟨rfl, rfl, trivial⟩ rfl) ?_
                      intro _ ρ A w4 _ h
                      refine wp_seq ?_
                      apply seq_dag hmix h
                      case hw =>
                        apply Walk.cons
                        · exact ok_move rfl rfl rfl
                        apply Walk.cons
                        · exact ok_move rfl rfl rfl
                        apply Walk.cons
                        · exact o_at46z rfl rfl rfl rfl (j := k) (by omega)
                        apply Walk.cons
                        · exact o_load3z rfl rfl rfl rfl (by omega)
                        apply Walk.cons
                        · exact o_bin rfl rfl rfl rfl (r_lssI (a := borS x k k) (b := 0) (decide_eq_false (by omega)))
                        exact Walk.nil _
                      case hck => kernel_rfl
                      case hQ =>
                        intro ρ A w1 h
                        refine if_false' h rfl (wp_exit (at_exit' ?_))
                        refine Exit.block_normal (Exit.then_normal ?_)
                        apply region_dag hmix h
                        case hw =>
                          apply Walk.cons
                          · exact ok_move rfl rfl rfl
                          apply Walk.cons
                          · exact o_bin rfl rfl rfl rfl (r_addi (a := k) (b := 1) (by omega))
                          apply Walk.cons
                          · exact ok_assign rfl rfl rfl
                          exact Walk.nil _
                        case hck => kernel_rfl
                        case hQ =>
                          intro ρ A w1 h
                          exact ⟨_, hlt, h.plain (borT x (k + 1)) ⟨rfl, rfl, rfl, trivial⟩ ⟨rfl, by rw [← borS_stay hneg]; rfl, trivial⟩ rfl⟩
                · obtain rfl : k = 15 := by omega
                  refine wp_seq ?_
                  apply seq_dag hmix h
                  case hw =>
                    apply Walk.cons
                    · exact ok_move rfl rfl rfl
                    apply Walk.cons
                    · exact o_bin rfl rfl rfl rfl (r_lss (a := 15) (b := 15) (decide_eq_false hlt))
                    exact Walk.nil _
                  case hck => kernel_rfl
                  case hQ =>
                    intro ρ A w1 h
                    refine if_false' h rfl (wp_exit (at_exit' ?_))
                    refine Exit.then_normal ?_
                    have hev := end_val hx0 hx1 hposv
                    rw [hval] at hev
                    have hvn : valN (endN x) 16 = n + (pp - m) := by omega
                    have h := h.plain ⟨[(4, .p 4 0), (5, .s 11 0 16 16)], [(4, ⟨bvc 0, 24⟩), (11, ⟨icv (endN x) 16, 3⟩)]⟩ ⟨rfl, rfl, trivial⟩ ⟨rfl, by rw [← end_icz hx0 hx1 hposv]; rfl, trivial⟩ rfl
                    apply seq_dag hmix h
                    case hw =>
                      apply Walk.cons
                      · exact ok_move rfl rfl rfl
                      apply Walk.cons
                      · exact o_rest rfl rfl rfl rfl (by decide) (by decide) (by decide) (fun j _ => end_lt hxb j) (by rw [hvn]; exact Nat.lt_trans (Nat.add_lt_add_of_lt_of_le hn (Nat.sub_le pp m)) (by decide +kernel)) (n := (n + (pp - m)) % pp) (by rw [hvn])
                      apply Walk.cons
                      · exact o_store24 rfl rfl rfl rfl rfl
                      exact Walk.nil _
                    case hck => kernel_rfl
                    case hQ =>
                      intro ρ A w1 h
                      refine wp_ret ?_
                      exact h.result24 Try.results26 rfl rfl ⟨by rw [hsub], h.below⟩
theorem o_sub26 {F : Fr} {ops : Array Oper} {S : St} {o : Oper} (hw : want ops S o = some true) {args : Array Operand} {ts : Array TypeId} (ho : o.op = .call { callee := .value (.func 26), args := args, argTypes := ts }) {a b : Nat}
    (hx : args.toList.mapM S.av = some [.v (bv a), .v (bv b)]) (ha : a < 2 ^ 256) (hb : b < 2 ^ 256) : OpOK Try.prog F ops o S { val := .v (bv (subP a b)) } :=
  ok_call_val hw ho (by kernel_rfl) _ hx (rd := []) (fun _ w _ _ => sub26_any a b ha hb w)
end Go.Proofs.Ytnbdeajjfhlmnaa
