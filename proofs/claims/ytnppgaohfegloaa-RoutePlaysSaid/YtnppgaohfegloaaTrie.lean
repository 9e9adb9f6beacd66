/-
  Tables: what a trie in the memory stands for. A key is (version 6?, how many bits, those bits as a number).
-/
import Derived.Test.YtnppgaohfegloaaWhole
namespace Go.Proofs.Ytnppgaohfegloaa
open Go.RowKit

def topD (n i : Nat) : Nat := n / 2 ^ (128 - i)
theorem topD_zero {n : Nat} (hn : n < 2 ^ 128) : topD n 0 = 0 := Nat.div_eq_of_lt hn
theorem topD_next (n i : Nat) (hi : i < 128) : topD n (i + 1) = 2 * topD n i + bitA n i := by
  rw [topD, topD, bitA, show 128 - (i + 1) = 127 - i by omega, show 128 - i = 127 - i + 1 by omega, Nat.pow_succ, ← Nat.div_div_eq_div_mul]
  omega
theorem topN_topD (n i : Nat) : topN n i = topD n i * 2 ^ (128 - i) := rfl
def updK {α : Type} (f : Bool → Nat → Nat → α) (v : Bool) (d m : Nat) (x : α) : Bool → Nat → Nat → α := fun v' d' m' => if v' = v ∧ d' = d ∧ m' = m then x else f v' d' m'
theorem updK_same {α : Type} (f : Bool → Nat → Nat → α) (v : Bool) (d m : Nat) (x : α) : updK f v d m x v d m = x := by simp [updK]
theorem updK_ne {α : Type} (f : Bool → Nat → Nat → α) {v v' : Bool} {d d' m m' : Nat} (x : α) (h : ¬ (v' = v ∧ d' = d ∧ m' = m)) : updK f v d m x v' d' m' = f v' d' m' := by simp [updK, h]

structure Tab where
  own : Bool → Nat → Nat → Option Int
  cnt : Nat
abbrev Ids := Bool → Nat → Nat → Option Nat
def ptrOf : Option Nat → Value
  | none => .pointer none
  | some b => .pointer (some ⟨b, 0, none⟩)
def nodeC (ids : Ids) (M : Tab) (v : Bool) (d m : Nat) : Array Value := ndc (ptrOf (ids v (d + 1) (2 * m))) (ptrOf (ids v (d + 1) (2 * m + 1))) (M.own v d m) v (m * 2 ^ (128 - d)) (d : Nat)
def tabC (ids : Ids) (M : Tab) : Array Value := tbc (ptrOf (ids false 0 0)) (ptrOf (ids true 0 0)) (M.cnt : Nat)
structure IsT (t : Nat) (ids : Ids) (M : Tab) (T : Hp) : Prop where
  root : T t = some (cobj (tabC ids M) 60)
  node : ∀ v d m b, ids v d m = some b → T b = some (cobj (nodeC ids M v d m) 64)
  inj : ∀ v d m v' d' m' b, ids v d m = some b → ids v' d' m' = some b → v' = v ∧ d' = d ∧ m' = m
  ne : ∀ v d m, ids v d m ≠ some t
  up : ∀ v d m, ids v (d + 1) m ≠ none → ids v d (m / 2) ≠ none
  has : ∀ v d m, M.own v d m ≠ none → ids v d m ≠ none
  deep : ∀ v d m, ids v d m ≠ none → d ≤ 128

theorem Hp.set_same (T : Hp) (b : Nat) (o : Obj) : T.set b o b = some o := by simp [Hp.set]
theorem Hp.set_ne (T : Hp) {b n : Nat} (o : Obj) (h : n ≠ b) : T.set b o n = T n := by simp [Hp.set, h]
theorem Hp.set_set (T : Hp) (b : Nat) (o o' : Obj) : (T.set b o).set b o' = T.set b o' := by
  funext n
  unfold Hp.set
  split <;> rfl

theorem IsT.setCnt {t : Nat} {ids : Ids} {M : Tab} {T : Hp} (h : IsT t ids M T) (c : Nat) : IsT t ids ⟨M.own, c⟩ (T.set t (cobj (tabC ids ⟨M.own, c⟩) 60)) := by
  refine ⟨Hp.set_same _ _ _, fun v d m b hb => ?_, h.inj, h.ne, h.up, h.has, h.deep⟩
  rw [Hp.set_ne _ _ (fun e : b = t => h.ne v d m (e ▸ hb))]
  exact h.node v d m b hb
theorem IsT.setOwn {t : Nat} {ids : Ids} {M : Tab} {T : Hp} (h : IsT t ids M T) {v : Bool} {d m q : Nat} (hq : ids v d m = some q) (x : Option Int) :
    IsT t ids ⟨updK M.own v d m x, M.cnt⟩ (T.set q (cobj (nodeC ids ⟨updK M.own v d m x, M.cnt⟩ v d m) 64)) := by
  refine ⟨?_, fun v' d' m' b hb => ?_, h.inj, h.ne, h.up, fun v' d' m' ho => ?_, h.deep⟩
  · rw [Hp.set_ne _ _ (fun e : t = q => h.ne v d m (e ▸ hq))]
    exact h.root
  · by_cases hbq : b = q
    · subst hbq
      obtain ⟨rfl, rfl, rfl⟩ := h.inj _ _ _ _ _ _ _ hq hb
      exact Hp.set_same _ _ _
    · rw [Hp.set_ne _ _ hbq, h.node v' d' m' b hb, nodeC, nodeC]
      have : ¬ (v' = v ∧ d' = d ∧ m' = m) := by
        rintro ⟨rfl, rfl, rfl⟩
        rw [hq] at hb
        cases hb
        exact hbq rfl
      simp only [updK_ne _ _ this]
  · by_cases hk : v' = v ∧ d' = d ∧ m' = m
    · obtain ⟨rfl, rfl, rfl⟩ := hk
      rw [hq]
      exact fun h => by cases h
    · exact h.has v' d' m' (by simpa only [updK_ne _ _ hk] using ho)

/-- the place of the pointer to the node at depth i on the way of an address -/
def locB (t : Nat) (ids : Ids) (v : Bool) (n : Nat) : Nat → Nat × Nat
  | 0 => (t, if v then 1 else 0)
  | i + 1 => ((ids v i (topD n i)).getD 0, bitA n i)
def onWay (ids : Ids) (v : Bool) (n : Nat) (i : Nat) : Prop := ∀ j, i = j + 1 → ids v j (topD n j) ≠ none
theorem onWay_zero (ids : Ids) (v : Bool) (n : Nat) : onWay ids v n 0 := fun j h => by omega
theorem onWay_next {ids : Ids} {v : Bool} {n i : Nat} (h : ids v i (topD n i) ≠ none) : onWay ids v n (i + 1) := fun j hj => by
  obtain rfl : j = i := by omega
  exact h
theorem IsT.cell {t : Nat} {ids : Ids} {M : Tab} {T : Hp} (h : IsT t ids M T) {v : Bool} {n i : Nat} (hn : n < 2 ^ 128) (hp : onWay ids v n i) (hi : i ≤ 128) :
    ∃ cs ty, T (locB t ids v n i).1 = some (cobj cs ty) ∧ (locB t ids v n i).2 < cs.size ∧ cs[(locB t ids v n i).2]? = some (ptrOf (ids v i (topD n i))) := by
  cases i with
  | zero =>
    refine ⟨_, _, h.root, ?_, ?_⟩
    · show (if v then 1 else 0) < 3
      cases v <;> decide
    · rw [topD_zero hn]
      cases v <;> rfl
  | succ i =>
    cases hq : ids v i (topD n i) with
    | none => exact absurd hq (hp i rfl)
    | some q =>
      have e : (locB t ids v n (i + 1)).1 = q := by show (ids v i (topD n i)).getD 0 = q; rw [hq]; rfl
      rw [e]
      refine ⟨_, _, h.node _ _ _ _ hq, ?_, ?_⟩
      · have := bitA_lt n i
        show bitA n i < 22
        omega
      · rw [topD_next n i (by omega)]
        have hb := bitA_lt n i
        show (nodeC ids M v i (topD n i))[bitA n i]? = _
        generalize bitA n i = c at *
        have : c = 0 ∨ c = 1 := by omega
        rcases this with rfl | rfl <;> rfl
theorem ptrOf_put {ids : Ids} {v : Bool} {d m q : Nat} {v' : Bool} {d' m' : Nat} (h : ¬ (v' = v ∧ d' = d ∧ m' = m)) : ptrOf (updK ids v d m (some q) v' d' m') = ptrOf (ids v' d' m') := by rw [updK_ne _ _ h]
/-- a node more -/
theorem IsT.grow {t : Nat} {ids : Ids} {M : Tab} {T : Hp} (h : IsT t ids M T) {v : Bool} {n i q : Nat} (hn : n < 2 ^ 128) (hp : onWay ids v n i) (hi : i ≤ 128) (hnone : ids v i (topD n i) = none) (hq : T q = none)
    {cs : Array Value} {ty : TypeId} (hT : T (locB t ids v n i).1 = some (cobj cs ty)) :
    IsT t (updK ids v i (topD n i) (some q)) M ((T.set (locB t ids v n i).1 (cobj (cs.setIfInBounds (locB t ids v n i).2 (.pointer (some ⟨q, 0, none⟩))) ty)).set q (cobj (ndc (.pointer none) (.pointer none) none v (topN n i) (i : Nat)) 64)) := by
  have hqt : t ≠ q := fun e => by rw [← e, h.root] at hq; cases hq
  have hqn : ∀ v d m b, ids v d m = some b → b ≠ q := fun v d m b hb e => by rw [← e, h.node v d m b hb] at hq; cases hq
  have hown : M.own v i (topD n i) = none := by
    cases ho : M.own v i (topD n i) with
    | none => rfl
    | some o => exact absurd hnone (h.has _ _ _ (by rw [ho]; exact fun h => by cases h))
  have hkid : ∀ c, c < 2 → ids v (i + 1) (2 * topD n i + c) = none := fun c hc => by
    cases ho : ids v (i + 1) (2 * topD n i + c) with
    | none => rfl
    | some o =>
      have := h.up v i (2 * topD n i + c) (by rw [ho]; exact fun h => by cases h)
      rw [show (2 * topD n i + c) / 2 = topD n i by omega] at this
      exact absurd hnone this
  have hnew : nodeC (updK ids v i (topD n i) (some q)) M v i (topD n i) = ndc (.pointer none) (.pointer none) none v (topN n i) (i : Nat) := by
    have e0 := hkid 0 (by decide)
    have e1 := hkid 1 (by decide)
    rw [nodeC, updK_ne _ _ (by omega), updK_ne _ _ (by omega), hown, e1, show 2 * topD n i = 2 * topD n i + 0 from rfl, e0]
    rfl
  refine ⟨?_, fun v' d' m' b hb => ?_, fun v1 d1 m1 v2 d2 m2 b h1 h2 => ?_, fun v' d' m' hc => ?_, fun v' d' m' hc => ?_, fun v' d' m' ho => ?_, fun v' d' m' hc => ?_⟩
  · rw [Hp.set_ne _ _ hqt]
    cases i with
    | zero =>
      show T.set t _ t = _
      rw [Hp.set_same]
      have hT' : T t = some (cobj cs ty) := hT
      rw [h.root] at hT'
      obtain ⟨rfl, rfl⟩ : tabC ids M = cs ∧ 60 = ty := by
        simp only [cobj, Option.some.injEq, Obj.cells.injEq] at hT'
        exact ⟨hT'.1, hT'.2.1⟩
      rw [topD_zero hn]
      cases v
      · have : ¬ (true = false ∧ 0 = 0 ∧ 0 = 0) := by decide
        show some (cobj (tbc _ _ _) _) = some (cobj (tbc _ _ _) _)
        rw [updK_same, updK_ne _ _ this]
        rfl
      · have : ¬ (false = true ∧ 0 = 0 ∧ 0 = 0) := by decide
        show some (cobj (tbc _ _ _) _) = some (cobj (tbc _ _ _) _)
        rw [updK_same, updK_ne _ _ this]
        rfl
    | succ i =>
      have hne : t ≠ (locB t ids v n (i + 1)).1 := by
        cases hp' : ids v i (topD n i) with
        | none => exact absurd hp' (hp i rfl)
        | some p =>
          show t ≠ (ids v i (topD n i)).getD 0
          rw [hp']
          exact fun e => h.ne _ _ _ (by rw [hp', e]; rfl)
      rw [Hp.set_ne _ _ hne, h.root, tabC, tabC, updK_ne _ _ (by omega), updK_ne _ _ (by omega)]
  · by_cases hk : v' = v ∧ d' = i ∧ m' = topD n i
    · obtain ⟨rfl, rfl, rfl⟩ := hk
      rw [updK_same] at hb
      cases hb
      rw [Hp.set_same, hnew]
    · rw [updK_ne _ _ hk] at hb
      rw [Hp.set_ne _ _ (hqn _ _ _ _ hb)]
      cases i with
      | zero =>
        show T.set t _ b = _
        rw [Hp.set_ne _ _ (show b ≠ t from fun e => h.ne _ _ _ (e ▸ hb)), h.node _ _ _ _ hb, nodeC, nodeC, updK_ne _ _ (by omega), updK_ne _ _ (by omega)]
      | succ i =>
        cases hp' : ids v i (topD n i) with
        | none => exact absurd hp' (hp i rfl)
        | some p =>
          have e : (locB t ids v n (i + 1)).1 = p := by show (ids v i (topD n i)).getD 0 = p; rw [hp']; rfl
          rw [e] at hT ⊢
          by_cases hbp : b = p
          · subst hbp
            obtain ⟨rfl, rfl, rfl⟩ := h.inj _ _ _ _ _ _ _ hp' hb
            rw [Hp.set_same]
            rw [h.node _ _ _ _ hb] at hT
            obtain ⟨rfl, rfl⟩ : nodeC ids M v' d' (topD n d') = cs ∧ 64 = ty := by
              simp only [cobj, Option.some.injEq, Obj.cells.injEq] at hT
              exact ⟨hT.1, hT.2.1⟩
            rw [topD_next n d' (by omega)]
            have hc := bitA_lt n d'
            show some (cobj (Array.setIfInBounds _ (bitA n d') _) _) = _
            generalize bitA n d' = c at *
            have hc2 : c = 0 ∨ c = 1 := by omega
            rcases hc2 with rfl | rfl
            · have a0 : updK ids v' (d' + 1) (2 * topD n d' + 0) (some q) v' (d' + 1) (2 * topD n d') = some q := updK_same ids v' (d' + 1) (2 * topD n d') (some q)
              have a1 : updK ids v' (d' + 1) (2 * topD n d' + 0) (some q) v' (d' + 1) (2 * topD n d' + 1) = ids v' (d' + 1) (2 * topD n d' + 1) := updK_ne _ _ (by omega)
              simp only [nodeC, a0, a1]
              rfl
            · have a0 : updK ids v' (d' + 1) (2 * topD n d' + 1) (some q) v' (d' + 1) (2 * topD n d') = ids v' (d' + 1) (2 * topD n d') := updK_ne _ _ (by omega)
              have a1 : updK ids v' (d' + 1) (2 * topD n d' + 1) (some q) v' (d' + 1) (2 * topD n d' + 1) = some q := updK_same _ _ _ _ _
              simp only [nodeC, a0, a1]
              rfl
          · rw [Hp.set_ne _ _ hbp, h.node _ _ _ _ hb, nodeC, nodeC]
            have hne : ¬ (v' = v ∧ d' = i ∧ m' = topD n i) := by
              rintro ⟨rfl, rfl, rfl⟩
              rw [hp'] at hb
              cases hb
              exact hbp rfl
            have hnx := topD_next n i (by omega)
            have hc := bitA_lt n i
            have k0 : ¬ (v' = v ∧ d' + 1 = i + 1 ∧ 2 * m' = topD n (i + 1)) := by
              rintro ⟨a1, a2, a3⟩
              exact hne ⟨a1, by omega, by omega⟩
            have k1 : ¬ (v' = v ∧ d' + 1 = i + 1 ∧ 2 * m' + 1 = topD n (i + 1)) := by
              rintro ⟨a1, a2, a3⟩
              exact hne ⟨a1, by omega, by omega⟩
            rw [updK_ne _ _ k0, updK_ne _ _ k1]
  · by_cases k1 : v1 = v ∧ d1 = i ∧ m1 = topD n i <;> by_cases k2 : v2 = v ∧ d2 = i ∧ m2 = topD n i
    · obtain ⟨rfl, rfl, rfl⟩ := k1
      exact k2
    · obtain ⟨rfl, rfl, rfl⟩ := k1
      rw [updK_same] at h1
      cases h1
      rw [updK_ne _ _ k2] at h2
      exact absurd rfl (hqn _ _ _ _ h2)
    · obtain ⟨rfl, rfl, rfl⟩ := k2
      rw [updK_same] at h2
      cases h2
      rw [updK_ne _ _ k1] at h1
      exact absurd rfl (hqn _ _ _ _ h1)
    · rw [updK_ne _ _ k1] at h1
      rw [updK_ne _ _ k2] at h2
      exact h.inj _ _ _ _ _ _ _ h1 h2
  · by_cases hk : v' = v ∧ d' = i ∧ m' = topD n i
    · obtain ⟨rfl, rfl, rfl⟩ := hk
      rw [updK_same] at hc
      cases hc
      exact hqt rfl
    · rw [updK_ne _ _ hk] at hc
      exact h.ne _ _ _ hc
  · by_cases hk : v' = v ∧ d' + 1 = i ∧ m' = topD n i
    · obtain ⟨rfl, rfl, rfl⟩ := hk
      have hnx := topD_next n d' (by omega)
      have hc := bitA_lt n d'
      have e : topD n (d' + 1) / 2 = topD n d' := by omega
      rw [e, updK_ne _ _ (by omega)]
      exact hp d' rfl
    · rw [updK_ne _ _ hk] at hc
      have h1 := h.up _ _ _ hc
      by_cases hk2 : v' = v ∧ d' = i ∧ m' / 2 = topD n i
      · rw [hk2.1, hk2.2.1, hk2.2.2, updK_same]
        exact fun h => by cases h
      · rw [updK_ne _ _ hk2]
        exact h1
  · have h1 := h.has _ _ _ ho
    by_cases hk : v' = v ∧ d' = i ∧ m' = topD n i
    · rw [hk.1, hk.2.1, hk.2.2, updK_same]
      exact fun h => by cases h
    · rw [updK_ne _ _ hk]
      exact h1
  · by_cases hk : v' = v ∧ d' = i ∧ m' = topD n i
    · rw [hk.2.1]
      exact hi
    · rw [updK_ne _ _ hk] at hc
      exact h.deep _ _ _ hc
/-- nothing is on the way beyond the first place where there is nothing -/
theorem IsT.none_on {t : Nat} {ids : Ids} {M : Tab} {T : Hp} (h : IsT t ids M T) {v : Bool} {n i : Nat} (hi : ids v i (topD n i) = none) : ∀ j, i ≤ j → j ≤ 128 → ids v j (topD n j) = none := by
  intro j hij hj
  induction j with
  | zero => obtain rfl : i = 0 := by omega
            exact hi
  | succ j ih =>
    by_cases e : i = j + 1
    · rw [← e]; exact hi
    · have := ih (by omega) (by omega)
      cases ho : ids v (j + 1) (topD n (j + 1)) with
      | none => rfl
      | some o =>
        have h1 := h.up v j (topD n (j + 1)) (by rw [ho]; exact fun h => by cases h)
        have hnx := topD_next n j (by omega)
        have hc := bitA_lt n j
        rw [show topD n (j + 1) / 2 = topD n j by omega] at h1
        exact absurd this h1
/-- a table, as something said of a part of the memory -/
def tabA (M : Tab) : Ext where
  holds := fun t f H => ∃ ids T, IsT t ids M T ∧ (heapA T).holds t f H
  loc := by
    rintro r f H H' ⟨ids, T, h1, h2⟩ hh
    exact ⟨ids, T, h1, (heapA T).loc h2 hh⟩
  live := by
    rintro r f H n ⟨ids, T, h1, h2⟩ hn
    exact (heapA T).live h2 hn
def Tab.nil : Tab := ⟨fun _ _ _ => none, 0⟩
theorem IsT.nil (t : Nat) : IsT t (fun _ _ _ => none) Tab.nil (fun n => if n = t then some (cobj (tbc (.pointer none) (.pointer none) 0) 60) else none) := by
  refine ⟨by simp; rfl, ?_, ?_, ?_, ?_, ?_, ?_⟩
  · intro v d m b h; cases h
  · intro v d m v' d' m' b h; cases h
  · intro v d m h; cases h
  · intro v d m h; exact absurd rfl h
  · intro v d m h; exact absurd rfl h
  · intro v d m h; exact absurd rfl h
end Go.Proofs.Ytnppgaohfegloaa
