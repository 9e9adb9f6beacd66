/-
  The first functions of package field: word, put, carry.
-/
import Derived.Test.YtnbdeajjfhlmnaaNum
import Derived.BigQuiet
namespace Go.Proofs.Ytnbdeajjfhlmnaa
open Go.RowKit

theorem word_step (x v k : Nat) (hx : x < 256 ^ k) (hv : v < 256) (hk : k < 8) :
    bits BinOp.or IntKind.u64 (x : Int) (IntKind.u64.wrap (IntKind.u64.wrap (v : Int) * 2 ^ (8 * k))) = ((x + v * 256 ^ k : Nat) : Int) := by
  have e : (2 : Nat) ^ (8 * k) = 256 ^ k := by rw [Nat.pow_mul]
  have h2 : v * 256 ^ k < 18446744073709551616 := by
    have h8 : (256 : Nat) ^ k * 256 ≤ 256 ^ 8 := by rw [← Nat.pow_succ]; exact Nat.pow_le_pow_right (by decide) (by omega)
    have : v * 256 ^ k < 256 * 256 ^ k := Nat.mul_lt_mul_of_pos_right hv (Nat.pow_pos (by decide))
    omega
  have h1 : x < 18446744073709551616 := by
    have h8 : (256 : Nat) ^ k ≤ 256 ^ 8 := Nat.pow_le_pow_right (by decide) (by omega)
    omega
  have w1 : IntKind.u64.wrap (v : Int) = (v : Int) := by rw [IntKind.wrap_u64]; omega
  have w2 : IntKind.u64.wrap ((v : Int) * 2 ^ (8 * k)) = ((v * 256 ^ k : Nat) : Int) := by
    have : (v : Int) * 2 ^ (8 * k) = ((v * 256 ^ k : Nat) : Int) := by rw [← e]; push_cast; rfl
    rw [this, IntKind.wrap_u64]; omega
  rw [w1, w2, u64_or_nat x _ h1 h2]
  congr 1
  rw [← e] at hx ⊢
  exact or_join (8 * k) x v hx

set_option maxHeartbeats 400000 in
theorem word_any (n b at_ : Nat) (w : World) (hat : at_ ≤ 24) (hc : ∀ k, k < 32 → w.cell? ⟨b, k, none⟩ = some (byteV n k)) :
    Calls Try.prog 52 #[.pointer (some ⟨b, 0, none⟩), .int .i64 at_] w fun e w' => e = .returned (.int .u64 (wordN n at_)) ∧ w = w' := by
  have hfin := wordN_ofB n at_
  have hlt := fun k (hk : k ≤ 8) => ofB_lt (fun k => byteOf n (at_ + k)) k (fun i _ => byteOf_lt _ _)
  generalize hg : (fun k => byteOf n (at_ + k)) = g at hfin hlt
  have hgk : ∀ k, byteOf n (at_ + k) = g k := fun k => by rw [← hg]
  have hg256 : ∀ k, g k < 256 := fun k => by rw [← hgk]; exact byteOf_lt _ _
  simp only [byteV] at hc
  have hc' : ∀ k, k < 8 → w.cell? ⟨b, at_ + k, none⟩ = some (.int .u8 (g k)) := fun k hk => by rw [hc _ (by omega), hgk]
  clear hc hg hgk
  rw [← hfin]
  clear hfin
  go_enter Try.func52, Try.ntmps52
  go_wp2
  go_loop [5, 7] (fun wd i => ∃ k : Nat, k ≤ 8 ∧ i = .int .i64 k ∧ wd = .int .u64 (ofB g k)) (fun _ i => 8 - (intOf i).toNat)
  case atStart => exact ⟨0, by omega, rfl, rfl⟩
  case round =>
    obtain ⟨k, hk, rfl, rfl⟩ := hrel
    by_cases hk8 : k < 8
    · have h1 := hc' k hk8
      have hst := word_step (ofB g k) (g k) k (hlt k hk) (hg256 k) hk8
      clear hc' hg256 hlt
      have HS := hst
      clear hst
      go_wp2
      all_goals refine ⟨⟨k + 1, by omega, by go_num, ?_⟩, by simp [intOf]; omega⟩
      all_goals simp only [ofB]; first | rfl | (push_cast; rfl)
    · go_wp2
      go_ret
      have : k = 8 := by omega
      subst this
      exact ⟨rfl, rfl⟩

theorem Below.drewN' {B : Nat} {a w : World} (h : Below B a w) (n : Nat) : Below B a (w.drewN n) := ⟨h.os, h.tape, h.output, h.size, h.block⟩

set_option maxHeartbeats 400000 in
theorem carry_any (x : L5) (w : World) (hx : W5 x) : Calls Try.prog 51 #[lv x] w fun e w' => e = .returned (lv (carryL x)) ∧ Below w.heap.size w w' := by
  obtain ⟨x0, x1, x2, x3, x4⟩ := x
  obtain ⟨h0, h1, h2, h3, h4⟩ := hx
  simp only at h0 h1 h2 h3 h4
  have m0 := u64_and51 x0 h0
  have m1 := u64_and51 x1 h1
  have m2 := u64_and51 x2 h2
  have m3 := u64_and51 x3 h3
  have m4 := u64_and51 x4 h4
  unfold lv lvc carryL
  simp only
  go_enter Try.func51, Try.ntmps51
  go_wp2
  go_quiet (fail)
  go_wp2
  refine bodyPost_ret (v := .agg #[.int .u64 ((x0 : Int) % 2251799813685248 + 19 * (x4 / 2251799813685248)), .int .u64 ((x1 : Int) % 2251799813685248 + x0 / 2251799813685248), .int .u64 ((x2 : Int) % 2251799813685248 + x1 / 2251799813685248), .int .u64 ((x3 : Int) % 2251799813685248 + x2 / 2251799813685248), .int .u64 ((x4 : Int) % 2251799813685248 + x3 / 2251799813685248)])
    (by simp [results, Try.results51, go_sem]) rfl ⟨?_, ?_⟩
  · simp
  · repeat (first | with_reducible exact Below.refl _ _ | with_reducible refine Below.setCell ?_ (by simp) _ | with_reducible refine Below.alloc ?_ (by simp) _ | with_reducible refine Below.drewN' ?_ _)
end Go.Proofs.Ytnbdeajjfhlmnaa
