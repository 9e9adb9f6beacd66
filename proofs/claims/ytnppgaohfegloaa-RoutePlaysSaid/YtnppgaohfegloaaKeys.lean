/-
  Tables and lists of calls with different prefixes: whose a prefix is, how many there are, whose an address is. No program in sight.
-/
import Derived.Test.YtnppgaohfegloaaApp
namespace Go.Proofs.Ytnppgaohfegloaa
open Go.RowKit

def OpR.bn (p : OpR) : Nat := p.b.toNat
def OpR.key (p : OpR) (v : Bool) (d m : Nat) : Prop := p.v = v ∧ p.bn = d ∧ topD p.n p.bn = m
structure OpR.Ok (p : OpR) : Prop where
  lt : p.n < 2 ^ 128
  pfx : isPfx p.v p.n p.b = true
theorem OpR.Ok.bn {p : OpR} (h : p.Ok) : p.b = (p.bn : Nat) := by
  obtain ⟨k, h1, _, _⟩ := isPfx_nat h.pfx
  rw [OpR.bn, h1]
  rfl
theorem OpR.Ok.pfx' {p : OpR} (h : p.Ok) : isPfx p.v p.n (p.bn : Nat) = true := by rw [← h.bn]; exact h.pfx
theorem OpR.Ok.le {p : OpR} (h : p.Ok) : p.bn ≤ mostA p.v := by
  obtain ⟨k, h1, h2, _⟩ := isPfx_nat h.pfx'
  omega
def Tab.putR (M : Tab) (p : OpR) : Tab := M.put p.v p.n p.bn p.o
def Dist (l : List OpR) : Prop := ∀ (i j : Nat) (p q : OpR), l[i]? = some p → l[j]? = some q → p.key q.v q.bn (topD q.n q.bn) → i = j
theorem Dist.add {l : List OpR} {p : OpR} (h : Dist l) (hp : ∀ (j : Nat) (q : OpR), l[j]? = some q → ¬ q.key p.v p.bn (topD p.n p.bn)) : Dist (l ++ [p]) := by
  intro i j x y hi hj hk
  rcases Nat.lt_trichotomy i l.length with h1 | h1 | h1
  · rw [List.getElem?_append_left h1] at hi
    rcases Nat.lt_trichotomy j l.length with h2 | h2 | h2
    · rw [List.getElem?_append_left h2] at hj
      exact h i j x y hi hj hk
    · subst h2
      simp at hj
      subst hj
      exact absurd hk (hp i x hi)
    · rw [List.getElem?_eq_none (by simp; omega)] at hj
      cases hj
  · subst h1
    simp at hi
    subst hi
    rcases Nat.lt_trichotomy j l.length with h2 | h2 | h2
    · rw [List.getElem?_append_left h2] at hj
      exact absurd ⟨hk.1.symm, hk.2.1.symm, hk.2.2.symm⟩ (hp j y hj)
    · exact h2.symm
    · rw [List.getElem?_eq_none (by simp; omega)] at hj
      cases hj
  · rw [List.getElem?_eq_none (by simp; omega)] at hi
    cases hi
/-- the prefixes of the places P of l, and no others -/
def Owns (M : Tab) (l : List OpR) (P : Nat → Prop) : Prop := ∀ v d m o, M.own v d m = some o ↔ ∃ j p, P j ∧ l[j]? = some p ∧ p.key v d m ∧ p.o = o
theorem Owns.start (l : List OpR) : Owns Tab.nil l (fun _ => False) := fun v d m o => ⟨(fun h => by cases h), fun ⟨_, _, h, _⟩ => h.elim⟩
theorem Owns.free {M : Tab} {l : List OpR} {P : Nat → Prop} (h : Owns M l P) {v : Bool} {d m : Nat} (hn : ∀ (j : Nat) (p : OpR), P j → l[j]? = some p → ¬ p.key v d m) : M.own v d m = none := by
  cases ho : M.own v d m with
  | none => rfl
  | some o =>
    obtain ⟨j, p, h1, h2, h3, _⟩ := (h v d m o).1 ho
    exact absurd h3 (hn j p h1 h2)
theorem Owns.new {M : Tab} {l : List OpR} {P : Nat → Prop} (h : Owns M l P) (hd : Dist l) {i : Nat} {p : OpR} (hi : l[i]? = some p) (hP : ¬ P i) : M.own p.v p.bn (topD p.n p.bn) = none :=
  h.free fun j q h1 h2 h3 => hP (by rw [← hd j i q p h2 hi h3]; exact h1)
theorem Owns.put {M : Tab} {l : List OpR} {P : Nat → Prop} (h : Owns M l P) (hd : Dist l) {i : Nat} {p : OpR} (hi : l[i]? = some p) : Owns (M.putR p) l (fun j => P j ∨ j = i) := by
  intro v d m o
  by_cases hk : v = p.v ∧ d = p.bn ∧ m = topD p.n p.bn
  · obtain ⟨rfl, rfl, rfl⟩ := hk
    have e : (M.putR p).own p.v p.bn (topD p.n p.bn) = some p.o := updK_same _ _ _ _ _
    rw [e]
    constructor
    · intro ho
      exact ⟨i, p, .inr rfl, hi, ⟨rfl, rfl, rfl⟩, Option.some.inj ho⟩
    · rintro ⟨j, q, _, h2, h3, h4⟩
      obtain rfl := hd j i q p h2 hi h3
      rw [hi] at h2
      cases h2
      rw [h4]
  · have e : (M.putR p).own v d m = M.own v d m := updK_ne _ _ hk
    rw [e, h v d m o]
    constructor
    · rintro ⟨j, q, h1, h2⟩
      exact ⟨j, q, .inl h1, h2⟩
    · rintro ⟨j, q, h1 | h1, h2, h3, h4⟩
      · exact ⟨j, q, h1, h2, h3, h4⟩
      · subst h1
        rw [hi] at h2
        cases h2
        exact absurd ⟨h3.1.symm, h3.2.1.symm, h3.2.2.symm⟩ hk
theorem Owns.cnt {M : Tab} {l : List OpR} {P : Nat → Prop} (h : Owns M l P) (hd : Dist l) {i : Nat} {p : OpR} (hi : l[i]? = some p) (hP : ¬ P i) : (M.putR p).cnt = M.cnt + 1 := by
  show (if M.own p.v p.bn (topD p.n p.bn) = none then M.cnt + 1 else M.cnt) = M.cnt + 1
  rw [if_pos (h.new hd hi hP)]
theorem Owns.congr {M : Tab} {l : List OpR} {P Q : Nat → Prop} (h : Owns M l P) (hq : ∀ (j : Nat) (p : OpR), l[j]? = some p → (P j ↔ Q j)) : Owns M l Q := fun v d m o => by
  rw [h v d m o]
  constructor
  · rintro ⟨j, p, h1, h2, h3⟩
    exact ⟨j, p, (hq j p h2).1 h1, h2, h3⟩
  · rintro ⟨j, p, h1, h2, h3⟩
    exact ⟨j, p, (hq j p h2).2 h1, h2, h3⟩
theorem not_full {M : Tab} {v : Bool} {n b : Nat} (h : M.cnt < 64) : ¬ M.full v n b := fun hf => by have := hf.2; omega
theorem whole_eq {v v' : Bool} {n n' b b' : Nat} (hb : b ≤ 128) : (v = v' ∧ topN n b = topN n' b' ∧ ((b : Nat) : Int) = (b' : Nat)) ↔ (v = v' ∧ b = b' ∧ topD n b = topD n' b') := by
  constructor
  · rintro ⟨h1, h2, h3⟩
    have h3' : b = b' := by omega
    subst h3'
    refine ⟨h1, rfl, ?_⟩
    rw [topN_topD, topN_topD] at h2
    exact Nat.eq_of_mul_eq_mul_right (Nat.pow_pos (by decide)) h2
  · rintro ⟨h1, rfl, h3⟩
    exact ⟨h1, by rw [topN_topD, topN_topD, h3], rfl⟩
theorem bestTo_congr {M N : Tab} {v : Bool} {n : Nat} (k : Nat) (h : ∀ j, j < k → M.own v j (topD n j) = N.own v j (topD n j)) : M.bestTo v n k = N.bestTo v n k := by
  induction k with
  | zero => rfl
  | succ k ih => rw [Tab.bestTo, Tab.bestTo, h k (by omega), ih fun j hj => h j (by omega)]
theorem bestTo_from {M N : Tab} {v : Bool} {n i : Nat} (h0 : (M.bestTo v n i).map (·.2) = (N.bestTo v n i).map (·.2)) (k : Nat) (hik : i ≤ k) (h : ∀ j, i ≤ j → j < k → M.own v j (topD n j) = N.own v j (topD n j)) : (M.bestTo v n k).map (·.2) = (N.bestTo v n k).map (·.2) := by
  induction k with
  | zero => obtain rfl : i = 0 := by omega
            exact h0
  | succ k ih =>
    by_cases e : i = k + 1
    · rw [← e]; exact h0
    · rw [Tab.bestTo, Tab.bestTo, h k (by omega) (by omega)]
      cases N.own v k (topD n k) with
      | none => exact ih (by omega) fun j h1 h2 => h j h1 (by omega)
      | some o => rfl

/-! ### a prefix and its two halves -/
theorem low_top (n b : Nat) (hb : b < 128) : topD (topN n b) (b + 1) = 2 * topD n b := by
  have hp : 0 < 2 ^ (127 - b) := Nat.pow_pos (by decide)
  rw [topD, topN_topD, show 128 - (b + 1) = 127 - b by omega, show 128 - b = 127 - b + 1 by omega, Nat.pow_succ, ← Nat.mul_assoc, Nat.mul_right_comm, Nat.mul_div_cancel _ hp, Nat.mul_comm]
theorem high_top (n b : Nat) (hb : b < 128) : topD (topN n b + 2 ^ (127 - b)) (b + 1) = 2 * topD n b + 1 := by
  have hp : 0 < 2 ^ (127 - b) := Nat.pow_pos (by decide)
  have h := low_top n b hb
  rw [topD, show 128 - (b + 1) = 127 - b by omega] at h ⊢
  rw [Nat.add_div_right _ hp, h]
theorem halves {A B0 : Tab} {l : List OpR} {k : Nat} {p : OpR} (hk : l[k]? = some p) (hd : Dist l) (hA : Owns A l (fun j => j < l.length)) (hB : Owns B0 l (fun j => j < l.length ∧ j ≠ k)) (hlt : p.bn < mostA p.v)
    (hno : ∀ (j : Nat) (q : OpR), l[j]? = some q → j ≠ k → ¬ q.key p.v (p.bn + 1) (2 * topD p.n p.bn) ∧ ¬ q.key p.v (p.bn + 1) (2 * topD p.n p.bn + 1)) {lo hi : Nat} (hlo : topD lo (p.bn + 1) = 2 * topD p.n p.bn) (hhi : topD hi (p.bn + 1) = 2 * topD p.n p.bn + 1)
    (v : Bool) (x : Nat) : (A.find v x).map (·.2) = (((B0.put p.v lo (p.bn + 1) p.o).put p.v hi (p.bn + 1) p.o).find v x).map (·.2) := by
  have hm := mostA_le p.v
  have hkl : k < l.length := (List.getElem?_eq_some_iff.1 hk).1
  have same : ∀ w d m, ¬ (w = p.v ∧ d = p.bn ∧ m = topD p.n p.bn) → A.own w d m = B0.own w d m := by
    intro w d m hne
    have hx : ∀ o, A.own w d m = some o ↔ B0.own w d m = some o := by
      intro o
      rw [hA w d m o, hB w d m o]
      constructor
      · rintro ⟨j, q, h1, h2, h3, h4⟩
        refine ⟨j, q, ⟨h1, fun e => hne ?_⟩, h2, h3, h4⟩
        subst e
        rw [hk] at h2
        cases h2
        exact ⟨h3.1.symm, h3.2.1.symm, h3.2.2.symm⟩
      · rintro ⟨j, q, h1, h2⟩
        exact ⟨j, q, h1.1, h2⟩
    cases h1 : B0.own w d m with
    | none =>
      cases h2 : A.own w d m with
      | none => rfl
      | some o => rw [(hx o).1 h2] at h1; cases h1
    | some o => exact (hx o).2 h1
  have atK : A.own p.v p.bn (topD p.n p.bn) = some p.o := (hA _ _ _ _).2 ⟨k, p, hkl, hk, ⟨rfl, rfl, rfl⟩, rfl⟩
  have atK0 : B0.own p.v p.bn (topD p.n p.bn) = none := hB.free fun j q h1 h2 h3 => h1.2 (hd j k q p h2 hk h3)
  have kid : ∀ c, c < 2 → A.own p.v (p.bn + 1) (2 * topD p.n p.bn + c) = none := fun c hc => hA.free fun j q h1 h2 h3 => by
    by_cases e : j = k
    · subst e
      rw [hk] at h2
      cases h2
      have := h3.2.1
      omega
    · have := hno j q h2 e
      have hc2 : c = 0 ∨ c = 1 := by omega
      rcases hc2 with rfl | rfl
      · exact this.1 h3
      · exact this.2 h3
  have ownB : ∀ w d m, ¬ (w = p.v ∧ d = p.bn + 1 ∧ (m = 2 * topD p.n p.bn ∨ m = 2 * topD p.n p.bn + 1)) → ((B0.put p.v lo (p.bn + 1) p.o).put p.v hi (p.bn + 1) p.o).own w d m = B0.own w d m := by
    intro w d m hne
    show updK (updK B0.own p.v (p.bn + 1) (topD lo (p.bn + 1)) (some p.o)) p.v (p.bn + 1) (topD hi (p.bn + 1)) (some p.o) w d m = _
    rw [hlo, hhi, updK_ne _ _ (fun h => hne ⟨h.1, h.2.1, .inr h.2.2⟩), updK_ne _ _ (fun h => hne ⟨h.1, h.2.1, .inl h.2.2⟩)]
  have ownK : ∀ c, c < 2 → ((B0.put p.v lo (p.bn + 1) p.o).put p.v hi (p.bn + 1) p.o).own p.v (p.bn + 1) (2 * topD p.n p.bn + c) = some p.o := by
    intro c hc
    show updK (updK B0.own p.v (p.bn + 1) (topD lo (p.bn + 1)) (some p.o)) p.v (p.bn + 1) (topD hi (p.bn + 1)) (some p.o) p.v (p.bn + 1) (2 * topD p.n p.bn + c) = _
    rw [hlo, hhi]
    have hc2 : c = 0 ∨ c = 1 := by omega
    rcases hc2 with rfl | rfl
    · rw [updK_ne _ _ (by omega)]
      exact updK_same B0.own p.v (p.bn + 1) (2 * topD p.n p.bn) (some p.o)
    · rw [updK_same]
  by_cases hu : v = p.v ∧ topD x p.bn = topD p.n p.bn
  · obtain ⟨rfl, hx⟩ := hu
    have hnx := topD_next x p.bn (by omega)
    have hc := bitA_lt x p.bn
    have a1 : A.bestTo p.v x (p.bn + 1) = some (p.bn, p.o) := bestTo_some (by rw [hx]; exact atK)
    have a2 : A.bestTo p.v x (p.bn + 1 + 1) = some (p.bn, p.o) := by rw [bestTo_none (by rw [hnx, hx]; exact kid _ hc), a1]
    have b2 : ((B0.put p.v lo (p.bn + 1) p.o).put p.v hi (p.bn + 1) p.o).bestTo p.v x (p.bn + 1 + 1) = some (p.bn + 1, p.o) := bestTo_some (by rw [hnx, hx]; exact ownK _ hc)
    refine bestTo_from (i := p.bn + 1 + 1) (by rw [a2, b2]; rfl) _ (by omega) fun j h1 h2 => ?_
    rw [ownB _ _ _ (by omega)]
    exact same _ _ _ (by omega)
  · have e : A.find v x = ((B0.put p.v lo (p.bn + 1) p.o).put p.v hi (p.bn + 1) p.o).find v x := by
      refine bestTo_congr _ fun j hj => ?_
      rw [ownB v j (topD x j) ?_]
      · exact same _ _ _ (by rintro ⟨h1, rfl, h3⟩; exact hu ⟨h1, h3⟩)
      · rintro ⟨h1, rfl, h3⟩
        refine hu ⟨h1, ?_⟩
        have hnx := topD_next x p.bn (by omega)
        have hc := bitA_lt x p.bn
        omega
    rw [e]
theorem halves_cnt {B0 : Tab} {l : List OpR} {k : Nat} {p : OpR} (hB : Owns B0 l (fun j => j < l.length ∧ j ≠ k))
    (hno : ∀ (j : Nat) (q : OpR), l[j]? = some q → j ≠ k → ¬ q.key p.v (p.bn + 1) (2 * topD p.n p.bn) ∧ ¬ q.key p.v (p.bn + 1) (2 * topD p.n p.bn + 1)) {lo hi : Nat} (hlo : topD lo (p.bn + 1) = 2 * topD p.n p.bn) (hhi : topD hi (p.bn + 1) = 2 * topD p.n p.bn + 1) :
    (B0.put p.v lo (p.bn + 1) p.o).cnt = B0.cnt + 1 ∧ ((B0.put p.v lo (p.bn + 1) p.o).put p.v hi (p.bn + 1) p.o).cnt = B0.cnt + 2 := by
  have h1 : B0.own p.v (p.bn + 1) (topD lo (p.bn + 1)) = none := by rw [hlo]; exact hB.free fun j q a b c => (hno j q b a.2).1 c
  have h2 : B0.own p.v (p.bn + 1) (topD hi (p.bn + 1)) = none := by rw [hhi]; exact hB.free fun j q a b c => (hno j q b a.2).2 c
  have e1 : (B0.put p.v lo (p.bn + 1) p.o).cnt = B0.cnt + 1 := if_pos h1
  refine ⟨e1, ?_⟩
  show (if updK B0.own p.v (p.bn + 1) (topD lo (p.bn + 1)) (some p.o) p.v (p.bn + 1) (topD hi (p.bn + 1)) = none then (B0.put p.v lo (p.bn + 1) p.o).cnt + 1 else (B0.put p.v lo (p.bn + 1) p.o).cnt) = B0.cnt + 2
  rw [updK_ne _ _ (by omega), if_pos h2, e1]
end Go.Proofs.Ytnppgaohfegloaa
