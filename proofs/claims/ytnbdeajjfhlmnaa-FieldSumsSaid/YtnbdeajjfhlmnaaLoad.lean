/-
  field.load: 32 bytes as limbs.
-/
import Derived.Test.YtnbdeajjfhlmnaaBase
import Derived.Test.YtnbdeajjfhlmnaaArith
namespace Go.Proofs.Ytnbdeajjfhlmnaa
open Go.RowKit

section
variable (n b : Nat) (w : World) (hc : ∀ k, k < 32 → w.cell? ⟨b, k, none⟩ = some (byteV n k))
include hc
theorem word_0 : Calls Try.prog 52 #[.pointer (some ⟨b, 0, none⟩), .int .i64 0] w fun e w' => e = .returned (.int .u64 (wordN n 0)) ∧ w = w' := word_any n b 0 w (by decide) hc
theorem word_8 : Calls Try.prog 52 #[.pointer (some ⟨b, 0, none⟩), .int .i64 8] w fun e w' => e = .returned (.int .u64 (wordN n 8)) ∧ w = w' := word_any n b 8 w (by decide) hc
theorem word_16 : Calls Try.prog 52 #[.pointer (some ⟨b, 0, none⟩), .int .i64 16] w fun e w' => e = .returned (.int .u64 (wordN n 16)) ∧ w = w' := word_any n b 16 w (by decide) hc
theorem word_24 : Calls Try.prog 52 #[.pointer (some ⟨b, 0, none⟩), .int .i64 24] w fun e w' => e = .returned (.int .u64 (wordN n 24)) ∧ w = w' := word_any n b 24 w (by decide) hc
end

/-- two words side by side, cut at 51 bits: 'a / 2^s | b << t', s + t = 64 -/
theorem cut_word (a b s t : Nat) (ha : a < 18446744073709551616) (hst : s + t = 64) :
    bits .and .u64 (bits .or .u64 ((a / 2 ^ s : Nat) : Int) ((b * 2 ^ t % 18446744073709551616 : Nat) : Int)) 2251799813685247 = (((a / 2 ^ s + b * 2 ^ t) % 2251799813685248 : Nat) : Int) := by
  have h64 : (18446744073709551616 : Nat) = 2 ^ t * 2 ^ s := by rw [← Nat.pow_add, Nat.add_comm, hst]
  have h1 : a / 2 ^ s < 2 ^ t := by rw [Nat.div_lt_iff_lt_mul (Nat.pow_pos (by decide)), ← h64]; exact ha
  have hpt : 0 < 2 ^ t := Nat.pow_pos (by decide)
  have hm : b * 2 ^ t % 18446744073709551616 % 2 ^ t = 0 := by
    rw [h64, Nat.mod_mul_right_mod, Nat.mul_mod_left]
  have hlt : b * 2 ^ t % 18446744073709551616 < 18446744073709551616 := Nat.mod_lt _ (by decide)
  have h2t : 2 ^ t ≤ 18446744073709551616 := by rw [h64]; exact Nat.le_mul_of_pos_right _ (Nat.pow_pos (by decide))
  rw [u64_joined (a / 2 ^ s) b t h1 h2t hlt hm]
  have hsum : a / 2 ^ s + b * 2 ^ t % 18446744073709551616 < 18446744073709551616 := by
    have hdvd : b * 2 ^ t % 18446744073709551616 + 2 ^ t ≤ 18446744073709551616 := by
      have : b * 2 ^ t % (2 ^ t * 2 ^ s) = 2 ^ t * (b % 2 ^ s) := by rw [Nat.mul_comm b, Nat.mul_mod_mul_left]
      rw [h64, this]
      have : b % 2 ^ s + 1 ≤ 2 ^ s := Nat.mod_lt _ (Nat.pow_pos (by decide))
      have := Nat.mul_le_mul_left (2 ^ t) this
      rw [Nat.mul_add] at this
      omega
    omega
  rw [u64_and51 _ hsum]
  congr 1
  rw [Nat.add_mod, Nat.mod_mod_of_dvd _ (by decide : 2251799813685248 ∣ 18446744073709551616), ← Nat.add_mod]

theorem cells_of {w : World} {g n t : Nat} (h : w.heap[g]? = some (Blk.obj ⟨bvc n, t⟩)) : ∀ k, k < 32 → w.cell? ⟨g, k, none⟩ = some (byteV n k) :=
  fun k hk => by rw [cell_of_obj h]; exact get_bvc_lt n k hk
theorem word_b {f : Nat} {args : Array Value} {w : World} {v : Value} (h : Calls Try.prog f args w fun e w' => e = .returned v ∧ w = w') :
    Calls Try.prog f args w fun e w' => e = .returned v ∧ Below w.heap.size w w' := h.mono fun _ _ ⟨he, hw⟩ => ⟨he, hw ▸ Below.refl _ _⟩
theorem fn52 : goFn Try.prog 52 = true := by kernel_rfl

/-- the limbs before the top bit is counted -/
def loadL0 (n : Nat) : L5 := ⟨n % 2251799813685248, n / 2 ^ 51 % 2251799813685248, n / 2 ^ 102 % 2251799813685248, n / 2 ^ 153 % 2251799813685248, n / 2 ^ 204 % 2251799813685248⟩

theorem limb0 (n : Nat) : wordN n 0 % 2251799813685248 = n % 2251799813685248 := by simp only [wordN]; omega
theorem limb1 (n : Nat) : (wordN n 0 / 2 ^ 51 + wordN n 8 * 2 ^ 13) % 2251799813685248 = n / 2 ^ 51 % 2251799813685248 := by simp only [wordN]; omega
theorem limb2 (n : Nat) : (wordN n 8 / 2 ^ 38 + wordN n 16 * 2 ^ 26) % 2251799813685248 = n / 2 ^ 102 % 2251799813685248 := by simp only [wordN]; omega
theorem limb3 (n : Nat) : (wordN n 16 / 2 ^ 25 + wordN n 24 * 2 ^ 39) % 2251799813685248 = n / 2 ^ 153 % 2251799813685248 := by simp only [wordN]; omega
theorem limb4 (n : Nat) : wordN n 24 / 2 ^ 12 % 2251799813685248 = n / 2 ^ 204 % 2251799813685248 := by simp only [wordN]; omega
theorem limb5 (n : Nat) (h : n < 2 ^ 256) : wordN n 24 / 2 ^ 63 = n / 2 ^ 255 := by simp only [wordN]; omega

theorem load_any (n : Nat) (hn : n < 2 ^ 256) (w : World) : Calls Try.prog 42 #[bv n] w fun e w' => e = .returned (lv (loadL n)) ∧ Below w.heap.size w w' := by
  have H0 := wordN_lt n 0
  have H8 := wordN_lt n 8
  have H16 := wordN_lt n 16
  have H24 := wordN_lt n 24
  have m0 : bits .and .u64 (wordN n 0 : Int) 2251799813685247 = ((n % 2251799813685248 : Nat) : Int) := by rw [← limb0]; exact u64_and51 _ H0
  have m1 : bits .and .u64 (bits .or .u64 ((wordN n 0 / 2 ^ 51 : Nat) : Int) ((wordN n 8 * 2 ^ 13 % 18446744073709551616 : Nat) : Int)) 2251799813685247 = ((n / 2 ^ 51 % 2251799813685248 : Nat) : Int) := by
    rw [← limb1]; exact cut_word (wordN n 0) (wordN n 8) 51 13 H0 rfl
  have m2 : bits .and .u64 (bits .or .u64 ((wordN n 8 / 2 ^ 38 : Nat) : Int) ((wordN n 16 * 2 ^ 26 % 18446744073709551616 : Nat) : Int)) 2251799813685247 = ((n / 2 ^ 102 % 2251799813685248 : Nat) : Int) := by
    rw [← limb2]; exact cut_word (wordN n 8) (wordN n 16) 38 26 H8 rfl
  have m3 : bits .and .u64 (bits .or .u64 ((wordN n 16 / 2 ^ 25 : Nat) : Int) ((wordN n 24 * 2 ^ 39 % 18446744073709551616 : Nat) : Int)) 2251799813685247 = ((n / 2 ^ 153 % 2251799813685248 : Nat) : Int) := by
    rw [← limb3]; exact cut_word (wordN n 16) (wordN n 24) 25 39 H16 rfl
  have m4 : bits .and .u64 ((wordN n 24 / 2 ^ 12 : Nat) : Int) 2251799813685247 = ((n / 2 ^ 204 % 2251799813685248 : Nat) : Int) := by
    rw [← limb4]; exact u64_and51 _ (by omega)
  go_enter Try.func42, Try.ntmps42
  have h := Rep.start (N := 44) [bv n] [undef, undef, undef, undef, undef, undef, undef, undef, undef, undef, undef, undef, undef, undef, undef, undef, undef, undef, undef, undef, undef, undef, undef, undef, undef, undef, undef, undef, undef, undef, undef, undef, undef, undef, undef, undef, undef, undef, undef, undef, undef, undef, undef] w rfl
  apply seq_dag hmix h
  case hw =>
    apply Walk.cons
    · exact o_box24 1 rfl rfl rfl
    apply Walk.cons
    · exact o_alloc41 2 rfl rfl
    exact Walk.nil _
  case hck => kernel_rfl
  case hQ =>
    intro ρ a w1 h
    apply seq_dag hmix h
    case hw =>
      apply Walk.cons
      · exact ok_call_val rfl rfl fn52 [.p 1 0, .v _] rfl (rd := [1]) (fun ρ w h _ => word_b (word_0 n _ w (cells_of (h 1 (by simp) _ rfl))))
      apply Walk.cons
      · exact ok_call_val rfl rfl fn52 [.p 1 0, .v _] rfl (rd := [1]) (fun ρ w h _ => word_b (word_8 n _ w (cells_of (h 1 (by simp) _ rfl))))
      apply Walk.cons
      · exact ok_call_val rfl rfl fn52 [.p 1 0, .v _] rfl (rd := [1]) (fun ρ w h _ => word_b (word_16 n _ w (cells_of (h 1 (by simp) _ rfl))))
      apply Walk.cons
      · exact ok_call_val rfl rfl fn52 [.p 1 0, .v _] rfl (rd := [1]) (fun ρ w h _ => word_b (word_24 n _ w (cells_of (h 1 (by simp) _ rfl))))
      apply Walk.cons
      · exact ok_assign rfl rfl rfl
      apply Walk.cons
      · exact ok_assign rfl rfl rfl
      apply Walk.cons
      · exact ok_assign rfl rfl rfl
      apply Walk.cons
      · exact ok_assign rfl rfl rfl
      exact Walk.nil _
    case hck => kernel_rfl
    case hQ =>
      intro ρ a w1 h
      apply seq_dag hmix h
      case hw =>
        apply Walk.cons
        · exact ok_move rfl rfl rfl
        apply Walk.cons
        · exact o_bin rfl rfl rfl rfl (r_and m0)
        apply Walk.cons
        · exact ok_move rfl rfl rfl
        apply Walk.cons
        · exact o_bin rfl rfl rfl rfl (r_shr64 _ 51 .u64 (by decide))
        apply Walk.cons
        · exact ok_move rfl rfl rfl
        apply Walk.cons
        · exact o_bin rfl rfl rfl rfl (r_shl64 _ 13 .u64 (by decide))
        apply Walk.cons
        · exact o_bin rfl rfl rfl rfl (r_or rfl)
        apply Walk.cons
        · exact o_bin rfl rfl rfl rfl (r_and m1)
        apply Walk.cons
        · exact ok_move rfl rfl rfl
        apply Walk.cons
        · exact o_bin rfl rfl rfl rfl (r_shr64 _ 38 .u64 (by decide))
        apply Walk.cons
        · exact ok_move rfl rfl rfl
        apply Walk.cons
        · exact o_bin rfl rfl rfl rfl (r_shl64 _ 26 .u64 (by decide))
        apply Walk.cons
        · exact o_bin rfl rfl rfl rfl (r_or rfl)
        apply Walk.cons
        · exact o_bin rfl rfl rfl rfl (r_and m2)
        apply Walk.cons
        · exact ok_move rfl rfl rfl
        apply Walk.cons
        · exact o_bin rfl rfl rfl rfl (r_shr64 _ 25 .u64 (by decide))
        apply Walk.cons
        · exact ok_move rfl rfl rfl
        apply Walk.cons
        · exact o_bin rfl rfl rfl rfl (r_shl64 _ 39 .u64 (by decide))
        apply Walk.cons
        · exact o_bin rfl rfl rfl rfl (r_or rfl)
        apply Walk.cons
        · exact o_bin rfl rfl rfl rfl (r_and m3)
        apply Walk.cons
        · exact ok_move rfl rfl rfl
        apply Walk.cons
        · exact o_bin rfl rfl rfl rfl (r_shr64 _ 12 .u64 (by decide))
        apply Walk.cons
        · exact o_bin rfl rfl rfl rfl (r_and m4)
        apply Walk.cons
        · exact o_built rfl rfl (by kernel_rfl) (v := lv (loadL0 n)) (fun w => by kernel_rfl)
        apply Walk.cons
        · exact o_alloc41 7 rfl rfl
        apply Walk.cons
        · exact o_store41 rfl rfl rfl rfl rfl
        exact Walk.nil _
      case hck => kernel_rfl
      case hQ =>
        intro ρ a w1 h
        have h := h.plain ⟨[(2, .p 2 0), (6, .v (.int .u64 (wordN n 24))), (7, .p 7 0)], [(2, ⟨lvc ⟨0, 0, 0, 0, 0⟩, 41⟩), (7, ⟨lvc (loadL0 n), 41⟩)]⟩ ⟨rfl, rfl, rfl, trivial⟩ ⟨rfl, rfl, trivial⟩ rfl
        apply seq_dag hmix h
        case hw =>
          apply Walk.cons
          · exact o_at41 rfl rfl rfl rfl (by decide)
          apply Walk.cons
          · exact o_load39 rfl rfl rfl rfl (by decide)
          apply Walk.cons
          · exact ok_move rfl rfl rfl
          apply Walk.cons
          · exact o_bin rfl rfl rfl rfl (r_shr64 _ 63 .u64 (by decide))
          apply Walk.cons
          · exact o_bin rfl rfl rfl rfl (r_mul64 (a := 19) (b := wordN n 24 / 2 ^ 63) (by omega))
          apply Walk.cons
          · exact o_bin rfl rfl rfl rfl (r_add64 (a := (loadL0 n).get 0) (b := 19 * (wordN n 24 / 2 ^ 63)) (by simp only [loadL0, L5.get]; omega))
          apply Walk.cons
          · exact o_at41 rfl rfl rfl rfl (by decide)
          apply Walk.cons
          · exact o_store39 rfl rfl rfl rfl rfl (by decide)
          exact Walk.nil _
        case hck => kernel_rfl
        case hQ =>
          intro ρ a w1 h
          apply seq_dag hmix h
          case hw =>
            apply Walk.cons
            · exact o_load41 rfl rfl rfl rfl
            apply Walk.cons
            · exact o_store41 rfl rfl rfl rfl rfl
            exact Walk.nil _
          case hck => kernel_rfl
          case hQ =>
            intro ρ a w1 h
            refine wp_ret ?_
            exact h.result41 Try.results42 rfl rfl ⟨by rw [limb5 n hn]; rfl, h.below⟩
end Go.Proofs.Ytnbdeajjfhlmnaa
