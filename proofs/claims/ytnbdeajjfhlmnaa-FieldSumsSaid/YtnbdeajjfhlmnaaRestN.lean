/-
  Limbs of 16 bits, folded and reduced modulo 2^255 - 19. No program in sight; and a state under other names.
-/
import Derived.Test.YtnbdeajjfhlmnaaRef
namespace Go.Proofs.Ytnbdeajjfhlmnaa
open Go.RowKit

/-! ### a state under other names -/
def AV.re (σ : Nat → Nat) (x : AV) : AV := ⟨x.id?.map σ, x.val⟩
theorem AV.to_re (σ ρ : Nat → Nat) (x : AV) : (x.re σ).to ρ = x.to (fun i => ρ (σ i)) := by
  obtain ⟨i, f⟩ := x
  cases i <;> rfl
def slotsRe (σ : Nat → Nat) (S : St) : List (Nat × AV) → Prop
  | [] => True
  | p :: r => S.slot p.1 = some (p.2.re σ) ∧ slotsRe σ S r
def memRe (σ : Nat → Nat) (S : St) : List (Nat × Blk) → Prop
  | [] => True
  | p :: r => S.blk (σ p.1) = some p.2 ∧ memRe σ S r
theorem Rep.ren {N : Nat} {S : St} {ρ : Nat → Nat} {F : Fr} {a : Act} {w : World} (h : Rep N S ρ F a w) (σ : Nat → Nat) (T : St) (hs : slotsRe σ S T.slots) (hm : memRe σ S T.mem)
    (hi : (T.mem.all fun p => T.mem.all fun q => σ p.1 != σ q.1 || p.1 == q.1) = true) (hl : liveB T = true) : Rep N T (fun i => ρ (σ i)) F a w := by
  have hs' : ∀ (l : List (Nat × AV)), slotsRe σ S l → ∀ p ∈ l, S.slot p.1 = some (p.2.re σ) := by
    intro l
    induction l with
    | nil => intro _ p hp; cases hp
    | cons q l ih => intro h p hp; rcases List.mem_cons.1 hp with rfl | hp; exact h.1; exact ih h.2 p hp
  have hm' : ∀ (l : List (Nat × Blk)), memRe σ S l → ∀ p ∈ l, S.blk (σ p.1) = some p.2 := by
    intro l
    induction l with
    | nil => intro _ p hp; cases hp
    | cons q l ih => intro h p hp; rcases List.mem_cons.1 hp with rfl | hp; exact h.1; exact ih h.2 p hp
  have e1 : ∀ k av, T.slot k = some av → S.slot k = some (av.re σ) := fun k av hk => hs' _ hs _ (lookup_mem hk)
  have e2 : ∀ i b, T.blk i = some b → S.blk (σ i) = some b := fun i b hi => hm' _ hm _ (lookup_mem hi)
  refine ⟨h.defers, h.size, fun k av hk => ?_, fun i b hi => h.mem _ b (e2 i b hi), fun i b hi => h.own _ b (e2 i b hi), fun i j b c hbi hbj he => ?_, fun k av i hk hi => ?_, h.keeps⟩
  · rw [← AV.to_re]; exact h.slots k _ (e1 k av hk)
  · have h1 := h.inj _ _ b c (e2 i b hbi) (e2 j c hbj) he
    have h2 := List.all_eq_true.1 (List.all_eq_true.1 hi _ (lookup_mem hbi)) _ (lookup_mem hbj)
    simpa [h1] using h2
  · have := List.all_eq_true.1 hl _ (lookup_mem hk)
    simp only [hi] at this
    exact Option.isSome_iff_exists.1 this
/-- a loop whose states are told by a measure -/
theorem rep_loop_by {α : Type} {P : Program} {N : Nat} {ρ : Nat → Nat} {F : Fr} {a : Act} {w : World} {body : Code} {Q : Exit → Act → World → Prop} (μ : α → Nat) (S : α → St) (I : α → Prop) (x : α) (hI : I x) (h0 : Rep N (S x) ρ F a w)
    (round : ∀ x ρ a w, I x → Rep N (S x) ρ F a w → body.wp P (Exit.then (fun a' w' => ∃ y ρ', μ y < μ x ∧ I y ∧ Rep N (S y) ρ' F a' w') Q) a w) : (Code.loop body).wp P Q a w := by
  refine wp_loop_ghost (fun m a w => ∃ x ρ, μ x = m ∧ I x ∧ Rep N (S x) ρ F a w) (μ x) ⟨x, ρ, rfl, hI, h0⟩ ?_
  rintro m a w ⟨x, ρ, rfl, hI, h⟩
  refine wp_mono (round x ρ a w hI h) ?_
  intro e a' w' hq
  cases e with
  | normal => obtain ⟨y, ρ', hlt, hI', h'⟩ := hq; exact ⟨μ y, hlt, y, ρ', rfl, hI', h'⟩
  | exit id => exact hq
  | goto l => exact hq
  | ret => exact hq
  | panic ch => exact hq
  | outgrown => exact hq

/-! ### the fold -/
def foldF (f : Nat → Nat) (k : Nat) : Nat → Nat := fun j => if j < 16 then f j + (if j < k then 38 * f (16 + j) else 0) else 0
theorem foldF_step (f : Nat → Nat) (k : Nat) (hk : k < 16) : updF (foldF f k) k (foldF f k k + 38 * f (16 + k)) = foldF f (k + 1) := by
  funext j
  simp only [updF, foldF]
  by_cases h : j = k
  · subst h; simp [hk]
  · by_cases h2 : j < 16
    · by_cases h3 : j < k
      · rw [if_neg h, if_pos h2, if_pos h2, if_pos h3, if_pos (by omega)]
      · rw [if_neg h, if_pos h2, if_pos h2, if_neg h3, if_neg (by omega)]
    · rw [if_neg h, if_neg h2, if_neg h2]
theorem foldF_lt {f : Nat → Nat} (h : ∀ j, f j < 65536) (k j : Nat) : foldF f k j < 2621440 := by
  have := h j
  have := h (16 + j)
  unfold foldF
  split
  · split <;> omega
  · decide
theorem valN_add (f : Nat → Nat) (a b : Nat) : valN f (a + b) = valN f a + 65536 ^ a * valN (fun j => f (a + j)) b := by
  induction b with
  | zero => simp [valN]
  | succ b ih =>
    rw [← Nat.add_assoc, valN, ih, valN, Nat.mul_add, Nat.pow_add]
    have : f (a + b) * (65536 ^ a * 65536 ^ b) = 65536 ^ a * (f (a + b) * 65536 ^ b) := by
      rw [Nat.mul_left_comm]
    omega
theorem fold_sum (f : Nat → Nat) (n k : Nat) (hk : k ≤ 16) : valN (fun j => if j < 16 then f j + (if j < n then 38 * f (16 + j) else 0) else 0) k = valN f k + 38 * valN (fun j => if j < n then f (16 + j) else 0) k := by
  induction k with
  | zero => rfl
  | succ k ih =>
    rw [valN, valN, valN, ih (by omega)]
    simp only [if_pos (show k < 16 by omega)]
    split
    · rw [Nat.add_mul, Nat.mul_add, Nat.mul_assoc]; omega
    · rw [Nat.add_zero, Nat.zero_mul, Nat.mul_add]; omega
theorem cut_sum (g : Nat → Nat) (n m : Nat) (h : n ≤ m) : valN (fun j => if j < n then g j else 0) m = valN g n := valN_cut g n m h
theorem fold_val (f : Nat → Nat) (n : Nat) (hn : n ≤ 16) : ∃ B, valN f (16 + n) = valN f 16 + 65536 ^ 16 * B ∧ valN (foldF f n) 16 = valN f 16 + 38 * B := by
  refine ⟨valN (fun j => f (16 + j)) n, valN_add f 16 n, ?_⟩
  have := fold_sum f n 16 (Nat.le_refl _)
  rw [show valN (fun j => if j < n then f (16 + j) else 0) 16 = valN (fun j => f (16 + j)) n from cut_sum (fun j => f (16 + j)) n 16 hn] at this
  exact this
theorem p16 : (65536 : Nat) ^ 16 = 115792089237316195423570985008687907853269984665640564039457584007913129639936 := by decide
theorem fold_key (A B : Nat) : A + 65536 ^ 16 * B = A + 38 * B + pp * (2 * B) := by
  rw [show (65536 : Nat) ^ 16 = pp * 2 + 38 by decide, Nat.add_mul, Nat.mul_assoc]
  generalize pp * (2 * B) = x
  omega
theorem fold_any {V V' A B : Nat} (h1 : V = A + 65536 ^ 16 * B) (h2 : V' = A + 38 * B) : V' % pp = V % pp := by
  rw [h1, h2, fold_key, Nat.add_mul_mod_self_left]
theorem fold_mod {f : Nat → Nat} {n : Nat} (hn : n ≤ 16) : valN (foldF f n) 16 % pp = valN f (16 + n) % pp := by
  obtain ⟨B, h1, h2⟩ := fold_val f n hn
  exact fold_any h1 h2
theorem less_key {V V' A B l n : Nat} (e1 : V = A + 65536 ^ 16 * B) (e2 : V' = A + 38 * B) (hl : l ≤ 18) (h1 : 1 ≤ n) (h0 : B = 0 → l ≤ 16) : V' + l < V + (16 + n) := by
  have h100 : 100 * B ≤ 65536 ^ 16 * B := Nat.mul_le_mul_right B (by decide)
  rw [e1, e2]
  generalize 65536 ^ 16 * B = x at h100
  by_cases hB : B = 0
  · have := h0 hB
    omega
  · omega
/-- the round of the first loop -/
theorem fold_less {f : Nat → Nat} (hf : ∀ j, f j < 65536) {n : Nat} (hn : n ≤ 16) (h1 : 1 ≤ n) :
    valN (foldF f n) 16 + lenN (cutL (foldF f n) 16) 16 < valN f (16 + n) + (16 + n) := by
  obtain ⟨B, e1, e2⟩ := fold_val f n hn
  refine less_key e1 e2 (lenN_le (cutL (foldF f n) 16) 16) h1 fun hB => lenN_small (f := foldF f n) (L := 16) (m := 16) ?_ (Nat.le_refl _)
  rw [e2, hB, Nat.mul_zero, Nat.add_zero]
  exact valN_lt 16 (fun j _ => hf j)

/-! ### the top bit -/
def topF (f : Nat → Nat) : Nat → Nat := updF (updF f 0 (f 0 + 19 * (f 15 / 32768))) 15 (f 15 % 32768)
def mid (f : Nat → Nat) : Nat := valN (fun j => f (1 + j)) 14
theorem val16 (f : Nat → Nat) : valN f 16 = f 0 + 65536 * mid f + f 15 * 65536 ^ 15 := by
  have h1 := valN_add f 1 14
  have e : valN f 1 = f 0 := by simp [valN]
  rw [e, Nat.pow_one] at h1
  rw [valN, show (15 : Nat) = 1 + 14 from rfl, h1]
  rfl
theorem p15 : (65536 : Nat) ^ 15 = 1766847064778384329583297500742918515827483896875618958121606201292619776 := by decide
theorem top_val (f : Nat → Nat) : valN (topF f) 16 + pp * (f 15 / 32768) = valN f 16 := by
  rw [val16, val16, pp_lit, p15]
  have e1 : mid (topF f) = mid f := valN_congr 14 fun j hj => by
    have a1 : 1 + j ≠ 15 := by omega
    have a2 : 1 + j ≠ 0 := by omega
    simp only [topF, updF, if_neg a1, if_neg a2]
  have e2 : topF f 0 = f 0 + 19 * (f 15 / 32768) := by simp [topF, updF]
  have e3 : topF f 15 = f 15 % 32768 := by simp [topF, updF]
  rw [e1, e2, e3]
  generalize mid f = m
  omega
theorem top_lt {f : Nat → Nat} (hf : ∀ j, f j < 65536) (j : Nat) : topF f j < 1099511627776 := by
  have := hf j
  have := hf 0
  have := hf 15
  simp only [topF, updF]
  split
  · omega
  · split <;> omega
/-- against the modulus -/
theorem ge_iff {f : Nat → Nat} (hf : ∀ j, f j < 65536) (h15 : f 15 < 32768) : geP f = decide (pp ≤ valN f 16) := by
  have hm := valN_lt (f := fun j => f (1 + j)) 14 (fun j _ => hf (1 + j))
  have hf0 := hf 0
  have hmax : ∀ k, (∀ j, j < k → f (j + 1) = 65535) → valN (fun j => f (1 + j)) k + 1 = 65536 ^ k := by
    intro k
    induction k with
    | zero => intro _; rfl
    | succ k ih =>
      intro h
      have h1 := ih fun j hj => h j (by omega)
      have h2 := h k (by omega)
      have h2' : f (1 + k) = 65535 := by rw [Nat.add_comm]; exact h2
      rw [valN, h2', Nat.pow_succ]
      omega
  have hless : ∀ k, (∃ j, j < k ∧ f (j + 1) ≠ 65535) → valN (fun j => f (1 + j)) k + 1 < 65536 ^ k := by
    intro k
    induction k with
    | zero => rintro ⟨j, hj, _⟩; omega
    | succ k ih =>
      rintro ⟨j, hj, hne⟩
      have hk := valN_lt (f := fun j => f (1 + j)) k (fun j _ => hf (1 + j))
      rw [valN, Nat.pow_succ]
      have hfk := hf (1 + k)
      by_cases hjk : j = k
      · subst hjk
        have h3 : f (1 + j) ≤ 65534 := by rw [Nat.add_comm 1 j]; have := hf (j + 1); omega
        have := Nat.mul_le_mul_right (65536 ^ j) h3
        omega
      · have := ih ⟨j, by omega, hne⟩
        have h3 : f (1 + k) ≤ 65535 := by omega
        have := Nat.mul_le_mul_right (65536 ^ k) h3
        omega
  have p14 : (65536 : Nat) ^ 14 = 26959946667150639794667015087019630673637144422540572481103610249216 := by decide
  have hval := val16 f
  rw [p15] at hval
  have hmid : mid f = valN (fun j => f (1 + j)) 14 := rfl
  by_cases hall : ∀ j, j < 14 → f (j + 1) = 65535
  · have h1 := hmax 14 hall
    rw [geP, allF_true hall, Bool.true_and]
    rw [p14] at h1
    rw [← hmid] at h1
    by_cases h2 : f 15 = 32767
    · rw [decide_eq_true h2, Bool.true_and]
      congr 1
      rw [pp_lit, hval, h2]
      apply propext
      omega
    · rw [decide_eq_false h2, Bool.false_and]
      symm
      rw [pp_lit, hval]
      apply decide_eq_false
      omega
  · rw [geP, allF_false hall, Bool.false_and]
    obtain ⟨m, h1, h2, _⟩ := firstBad hall
    have h3 := hless 14 ⟨m, h1, h2⟩
    rw [p14, ← hmid] at h3
    symm
    rw [pp_lit, hval]
    apply decide_eq_false
    omega
def subF (f : Nat → Nat) (k : Nat) : Nat → Nat := fun j => if j < k then (if j = 0 then f 0 - 65517 else 0) else f j
theorem subF_zero (f : Nat → Nat) : subF f 0 = f := by funext j; simp [subF]
theorem subF_first (f : Nat → Nat) : updF (subF f 0) 0 (f 0 - 65517) = subF f 1 := by
  funext j
  simp only [updF, subF]
  by_cases h : j = 0
  · subst h; simp
  · rw [if_neg h, if_neg (by omega), if_neg (by omega)]
theorem subF_step (f : Nat → Nat) (k : Nat) (hk : k ≠ 0) : updF (subF f k) k 0 = subF f (k + 1) := by
  funext j
  simp only [updF, subF]
  by_cases h : j = k
  · subst h; rw [if_pos rfl, if_pos (by omega), if_neg hk]
  · by_cases h2 : j < k
    · have h3 : j < k + 1 := by omega
      simp only [if_neg h, if_pos h2, if_pos h3]
    · rw [if_neg h, if_neg h2, if_neg (by omega)]
theorem subF_val {f : Nat → Nat} (hg : geP f = true) : valN (subF f 16) 16 = valN f 16 - pp := by
  simp only [geP, Bool.and_eq_true, decide_eq_true_eq] at hg
  obtain ⟨h1, h2, h3⟩ := hg
  have hall := allF_of h1
  have e : ∀ k, k ≤ 15 → valN (subF f 16) (k + 1) = f 0 - 65517 := by
    intro k
    induction k with
    | zero => intro _; simp [valN, subF]
    | succ k ih =>
      intro hk
      rw [valN, ih (by omega)]
      have : subF f 16 (k + 1) = 0 := by simp only [subF]; rw [if_pos (by omega), if_neg (by omega)]
      rw [this, Nat.zero_mul, Nat.add_zero]
  rw [e 15 (Nat.le_refl _)]
  have hmax : ∀ k, k ≤ 14 → valN (fun j => f (1 + j)) k + 1 = 65536 ^ k := by
    intro k
    induction k with
    | zero => intro _; rfl
    | succ k ih =>
      intro h
      have h1 := ih (by omega)
      have h2 := hall k (by omega)
      have h2' : f (1 + k) = 65535 := by rw [Nat.add_comm]; exact h2
      rw [valN, h2', Nat.pow_succ]
      omega
  have h4 := hmax 14 (Nat.le_refl _)
  have p14 : (65536 : Nat) ^ 14 = 26959946667150639794667015087019630673637144422540572481103610249216 := by decide
  rw [p14] at h4
  have hval := val16 f
  rw [p15, show mid f = valN (fun j => f (1 + j)) 14 from rfl] at hval
  rw [pp_lit, hval, h2]
  generalize valN (fun j => f (1 + j)) 14 = m at *
  omega

/-! ### limbs to bytes -/
def outB (f : Nat → Nat) : Nat → Nat
  | 0 => 0
  | k + 1 => setByte (setByte (outB f k) (2 * k) (f k % 256)) (2 * k + 1) (f k / 256)
theorem outB_byte {f : Nat → Nat} (hf : ∀ j, f j < 65536) (k i : Nat) (hi : i < 32) : byteOf (outB f k) i = if i < 2 * k then (if i % 2 = 0 then f (i / 2) % 256 else f (i / 2) / 256) else 0 := by
  induction k with
  | zero => simp [outB, byteOf]
  | succ k ih =>
    have h1 : f k / 256 < 256 := by have := hf k; omega
    have h0 : f k % 256 < 256 := Nat.mod_lt _ (by decide)
    rw [outB, byteOf_setByte _ _ _ _ h1 hi, byteOf_setByte _ _ _ _ h0 hi, ih]
    by_cases e1 : i = 2 * k + 1
    · subst e1; rw [if_pos rfl, if_pos (by omega), if_neg (by omega), show (2 * k + 1) / 2 = k by omega]
    · rw [if_neg e1]
      by_cases e0 : i = 2 * k
      · subst e0; rw [if_pos rfl, if_pos (by omega), if_pos (by omega), show 2 * k / 2 = k by omega]
      · rw [if_neg e0]
        by_cases h : i < 2 * k
        · have h3 : i < 2 * (k + 1) := by omega
          simp only [if_pos h, if_pos h3]
        · rw [if_neg h, if_neg (by omega)]
theorem outB_lt {f : Nat → Nat} (hf : ∀ j, f j < 65536) (k : Nat) : outB f k < 2 ^ 256 := by
  cases k with
  | zero => exact Nat.pow_pos (by decide)
  | succ k => exact setByte_lt _ _ _ (by have := hf k; omega)
theorem outB_all {f : Nat → Nat} (hf : ∀ j, f j < 65536) : outB f 16 = valN f 16 := by
  have e : valN (limbN (outB f 16)) 16 = valN f 16 := valN_congr 16 fun j hj => by
    have := hf j
    rw [limbN, outB_byte hf _ _ (by omega), outB_byte hf _ _ (by omega), if_pos (by omega), if_pos (by omega), if_pos (by omega), if_neg (by omega), show 2 * j / 2 = j by omega, show (2 * j + 1) / 2 = j by omega]
    omega
  rw [← e, valN_limb, Nat.mod_eq_of_lt]
  rw [show (65536 : Nat) ^ 16 = 2 ^ 256 by decide]
  exact outB_lt hf 16
theorem u8_small {x : Nat} (h : x < 256) : IntKind.u8.wrap (x : Int) = ((x : Nat) : Int) := by rw [IntKind.wrap_u8']; omega
end Go.Proofs.Ytnbdeajjfhlmnaa
