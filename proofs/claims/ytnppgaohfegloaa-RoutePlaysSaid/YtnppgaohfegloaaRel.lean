/-
  Tables and the document's lists: the same prefixes, in order; what each call makes of both, and what each tells. No program in sight.
-/
import Derived.Test.YtnppgaohfegloaaRFind
import Derived.Test.YtnppgaohfegloaaAll
namespace Go.Proofs.Ytnppgaohfegloaa
open Go.RowKit

def ahead (x y : RowR) : Prop := aheadB x.v x.n x.b y.v y.n y.b = true
def sameK (x y : RowR) : Prop := x.v = y.v ∧ x.n = y.n ∧ x.b = y.b
theorem ahead_iff {x y : RowR} : ahead x y ↔ (x.v = false ∧ y.v = true) ∨ (x.v = y.v ∧ (x.n < y.n ∨ (x.n = y.n ∧ x.b < y.b))) := by
  unfold ahead aheadB
  obtain ⟨v, n, b, o⟩ := x
  obtain ⟨v', n', b', o'⟩ := y
  simp only
  by_cases hn : n = n'
  · subst hn
    cases v <;> cases v' <;> simp <;> omega
  · cases v <;> cases v' <;> simp [hn]
theorem ahead_irr (x : RowR) : ¬ ahead x x := fun h => by
  rcases ahead_iff.1 h with ⟨h1, h2⟩ | ⟨_, h | ⟨_, h⟩⟩
  · rw [h1] at h2; cases h2
  · omega
  · omega
theorem ahead_trans {x y z : RowR} (h : ahead x y) (k : ahead y z) : ahead x z := by
  rw [ahead_iff] at *
  rcases h with ⟨h1, h2⟩ | ⟨h1, h2⟩ <;> rcases k with ⟨k1, k2⟩ | ⟨k1, k2⟩
  · exact .inl ⟨h1, k2⟩
  · exact .inl ⟨h1, by rw [← k1]; exact h2⟩
  · exact .inl ⟨by rw [h1]; exact k1, k2⟩
  · exact .inr ⟨h1.trans k1, by omega⟩
theorem ahead_total {x y : RowR} (h : ¬ ahead x y) (k : ¬ sameK x y) : ahead y x := by
  rw [ahead_iff] at *
  unfold sameK at k
  cases hx : x.v <;> cases hy : y.v <;> simp only [hx, hy] at h k ⊢ <;> simp_all <;> omega
theorem sameK.symm {x y : RowR} (h : sameK x y) : sameK y x := ⟨h.1.symm, h.2.1.symm, h.2.2.symm⟩
theorem ahead_same_left {x y z : RowR} (h : sameK x y) : ahead x z ↔ ahead y z := by rw [ahead_iff, ahead_iff, h.1, h.2.1, h.2.2]
theorem ahead_same_right {x y z : RowR} (h : sameK x y) : ahead z x ↔ ahead z y := by rw [ahead_iff, ahead_iff, h.1, h.2.1, h.2.2]
theorem ahead_not_same {x y : RowR} (h : ahead x y) : ¬ sameK x y := fun k => ahead_irr y ((ahead_same_left k).1 h)
theorem sorted_ext : ∀ {l m : List RowR}, l.Pairwise ahead → m.Pairwise ahead → (∀ x, x ∈ l ↔ x ∈ m) → l = m := by
  intro l
  induction l with
  | nil =>
    intro m _ _ h
    cases m with
    | nil => rfl
    | cons b m => exact absurd ((h b).2 (by simp)) (by simp)
  | cons a l ih =>
    intro m hl hm h
    cases m with
    | nil => exact absurd ((h a).1 (by simp)) (by simp)
    | cons b m =>
      rw [List.pairwise_cons] at hl hm
      have hab : a = b := by
        rcases List.mem_cons.1 ((h a).1 (by simp)) with h1 | h1
        · exact h1
        · rcases List.mem_cons.1 ((h b).2 (by simp)) with h2 | h2
          · exact h2.symm
          · exact absurd (ahead_trans (hl.1 b h2) (hm.1 a h1)) (ahead_irr a)
      subst hab
      rw [ih hl.2 hm.2 fun x => ⟨fun hx => ?_, fun hx => ?_⟩]
      · rcases List.mem_cons.1 ((h x).1 (by simp [hx])) with h1 | h1
        · exact absurd (hl.1 x hx) (by rw [h1]; exact ahead_irr a)
        · exact h1
      · rcases List.mem_cons.1 ((h x).2 (by simp [hx])) with h1 | h1
        · exact absurd (hm.1 x hx) (by rw [h1]; exact ahead_irr a)
        · exact h1
theorem sorted_same : ∀ {l : List RowR} {x y : RowR}, l.Pairwise ahead → x ∈ l → y ∈ l → sameK x y → x = y := by
  intro l
  induction l with
  | nil => intro x y _ h; cases h
  | cons a l ih =>
    intro x y hl hx hy hk
    rw [List.pairwise_cons] at hl
    rcases List.mem_cons.1 hx with h1 | h1 <;> rcases List.mem_cons.1 hy with h2 | h2
    · exact h1.trans h2.symm
    · subst h1
      exact absurd hk (ahead_not_same (hl.1 y h2))
    · subst h2
      exact absurd hk.symm (ahead_not_same (hl.1 x h1))
    · exact ih hl.2 h1 h2 hk

/-! ### the relation -/
def mkR (v : Bool) (d m : Nat) (o : Int) : RowR := ⟨v, m * 2 ^ (128 - d), d, o⟩
structure Rel (M : Tab) (L : List RowR) : Prop where
  cnt : M.cnt = L.length
  lim : L.length ≤ 64
  wf : ∀ x ∈ L, x.n < 2 ^ 128 ∧ isPfx x.v x.n (x.b : Nat) = true ∧ topN x.n x.b = x.n
  sorted : L.Pairwise ahead
  own : ∀ v d m o, M.own v d m = some o ↔ mkR v d m o ∈ L
theorem Rel.nil : Rel Tab.nil [] := ⟨rfl, by decide, (fun x h => by cases h), List.Pairwise.nil, fun v d m o => ⟨(fun h => by cases h), (fun h => by cases h)⟩⟩
theorem Rel.le {M : Tab} {L : List RowR} (h : Rel M L) {x : RowR} (hx : x ∈ L) : x.b ≤ mostA x.v := by
  obtain ⟨k, h1, h2, _⟩ := isPfx_nat (h.wf x hx).2.1
  omega
theorem Rel.le' {M : Tab} {L : List RowR} (h : Rel M L) {x : RowR} (hx : x ∈ L) : x.b ≤ 128 := Nat.le_trans (h.le hx) (mostA_le _)
theorem topD_mk (m d : Nat) : topD (m * 2 ^ (128 - d)) d = m := Nat.mul_div_cancel _ (Nat.pow_pos (by decide))
theorem Rel.mk_eq {M : Tab} {L : List RowR} (h : Rel M L) {x : RowR} (hx : x ∈ L) : mkR x.v x.b (topD x.n x.b) x.o = x := by
  have := (h.wf x hx).2.2
  rw [topN_topD] at this
  rw [mkR, this]
theorem Rel.own_of {M : Tab} {L : List RowR} (h : Rel M L) {x : RowR} (hx : x ∈ L) : M.own x.v x.b (topD x.n x.b) = some x.o := by
  rw [h.own, h.mk_eq hx]
  exact hx
theorem mkR_same {v v' : Bool} {d d' m m' : Nat} {o o' : Int} : sameK (mkR v d m o) (mkR v' d' m' o') ↔ v = v' ∧ d = d' ∧ m = m' := by
  constructor
  · rintro ⟨h1, h2, h3⟩
    have h3 : d = d' := h3
    subst h3
    exact ⟨h1, rfl, Nat.eq_of_mul_eq_mul_right (Nat.pow_pos (by decide)) h2⟩
  · rintro ⟨rfl, rfl, rfl⟩
    exact ⟨rfl, rfl, rfl⟩

/-! ### all of them, in order -/
theorem topD_up (n d : Nat) (hd : d < 128) : topD n (d + 1) / 2 = topD n d := by
  have := topD_next n d hd
  have := bitA_lt n d
  omega
theorem IsT.way {t : Nat} {ids : Ids} {M : Tab} {T : Hp} (hI : IsT t ids M T) {v : Bool} {n : Nat} : ∀ b, b ≤ 128 → ids v b (topD n b) ≠ none → ∀ d, d ≤ b → ids v d (topD n d) ≠ none := by
  intro b
  induction b with
  | zero => intro _ h d hd; obtain rfl : d = 0 := by omega
            exact h
  | succ b ih =>
    intro hb h d hd
    by_cases e : d = b + 1
    · rw [e]; exact h
    · have := hI.up v b _ h
      rw [topD_up n b (by omega)] at this
      exact ih (by omega) this d (by omega)
theorem below_mem {t : Nat} {ids : Ids} {M : Tab} {T : Hp} (hI : IsT t ids M T) {L : List RowR} (hr : Rel M L) (v : Bool) : ∀ (f d m : Nat) (x : RowR), x ∈ below ids M v f d m → x ∈ L ∧ x.v = v ∧ d ≤ x.b ∧ topD x.n d = m := by
  intro f
  induction f with
  | zero => intro d m x h; cases h
  | succ f ih =>
    intro d m x h
    unfold below at h
    split at h
    · cases h
    · rename_i b hb
      have hdeep := hI.deep v d m (by rw [hb]; exact fun h => by cases h)
      rcases List.mem_append.1 h with h | h
      · rcases List.mem_append.1 h with h | h
        · unfold ownL at h
          cases ho : M.own v d m with
          | none => rw [ho] at h; cases h
          | some o =>
            rw [ho] at h
            have hx : x = mkR v d m o := by simpa [mkR] using h
            subst hx
            exact ⟨(hr.own v d m o).1 ho, rfl, Nat.le_refl _, topD_mk m d⟩
        · obtain ⟨h1, h2, h3, h4⟩ := ih _ _ x h
          have := hr.le' h1
          refine ⟨h1, h2, by omega, ?_⟩
          rw [← topD_up x.n d (by omega), h4]
          omega
      · obtain ⟨h1, h2, h3, h4⟩ := ih _ _ x h
        have := hr.le' h1
        refine ⟨h1, h2, by omega, ?_⟩
        rw [← topD_up x.n d (by omega), h4]
        omega
theorem mem_below {t : Nat} {ids : Ids} {M : Tab} {T : Hp} (hI : IsT t ids M T) {L : List RowR} (hr : Rel M L) {x : RowR} (hx : x ∈ L) : ∀ (f d : Nat), d ≤ x.b → x.b < d + f → x ∈ below ids M x.v f d (topD x.n d) := by
  intro f
  induction f with
  | zero => intro d h1 h2; omega
  | succ f ih =>
    intro d h1 h2
    have hb := hr.le' hx
    have ho := hr.own_of hx
    have hway := hI.way x.b hb (hI.has _ _ _ (by rw [ho]; exact fun h => by cases h)) d h1
    unfold below
    cases hi : ids x.v d (topD x.n d) with
    | none => exact absurd hi hway
    | some b =>
      simp only [List.mem_append]
      by_cases e : d = x.b
      · refine .inl (.inl ?_)
        rw [e, ownL, ho]
        have := hr.mk_eq hx
        unfold mkR at this
        simp only [List.mem_singleton]
        exact this.symm
      · have h3 := ih (d + 1) (by omega) (by omega)
        have hn := topD_next x.n d (by omega)
        have hc := bitA_lt x.n d
        rw [hn] at h3
        generalize bitA x.n d = c at *
        have : c = 0 ∨ c = 1 := by omega
        rcases this with rfl | rfl
        · exact .inl (.inr h3)
        · exact .inr h3
theorem lt_of_topD {n n' d : Nat} (h : topD n d < topD n' d) : n < n' := by
  rcases Nat.lt_or_ge n n' with h1 | h1
  · exact h1
  · have : topD n' d ≤ topD n d := Nat.div_le_div_right h1
    omega
theorem below_sorted {t : Nat} {ids : Ids} {M : Tab} {T : Hp} (hI : IsT t ids M T) {L : List RowR} (hr : Rel M L) (v : Bool) : ∀ (f d m : Nat), (below ids M v f d m).Pairwise ahead := by
  intro f
  induction f with
  | zero => intro d m; exact List.Pairwise.nil
  | succ f ih =>
    intro d m
    unfold below
    split
    · exact List.Pairwise.nil
    · rename_i b hb
      have hown : ∀ x ∈ ownL M v d m, x.v = v ∧ x.n = m * 2 ^ (128 - d) ∧ x.b = d := by
        intro x hx
        unfold ownL at hx
        cases ho : M.own v d m with
        | none => rw [ho] at hx; cases hx
        | some o =>
          rw [ho] at hx
          simp only [List.mem_singleton] at hx
          subst hx
          exact ⟨rfl, rfl, rfl⟩
      have hgt : ∀ c x, x ∈ below ids M v f (d + 1) (2 * m + c) → c < 2 → ∀ y ∈ ownL M v d m, ahead y x := by
        intro c x hx hc y hy
        obtain ⟨h1, h2, h3, h4⟩ := below_mem hI hr v _ _ _ x hx
        obtain ⟨k1, k2, k3⟩ := hown y hy
        have hb := hr.le' h1
        have h5 := topD_up x.n d (by omega)
        rw [h4] at h5
        have h6 : topD x.n d = m := by omega
        have h7 : m * 2 ^ (128 - d) ≤ x.n := by rw [← h6]; exact Nat.div_mul_le_self _ _
        rw [ahead_iff]
        exact .inr ⟨k1.trans h2.symm, by omega⟩
      rw [List.pairwise_append, List.pairwise_append]
      refine ⟨⟨?_, ih _ _, fun y hy x hx => hgt 0 x hx (by decide) y hy⟩, ih _ _, fun y hy x hx => ?_⟩
      · unfold ownL
        cases M.own v d m with
        | none => exact List.Pairwise.nil
        | some o => exact List.pairwise_singleton _ _
      · rcases List.mem_append.1 hy with hy | hy
        · exact hgt 1 x hx (by decide) y hy
        · obtain ⟨h1, h2, h3, h4⟩ := below_mem hI hr v _ _ _ x hx
          obtain ⟨k1, k2, k3, k4⟩ := below_mem hI hr v _ _ _ y hy
          rw [ahead_iff]
          exact .inr ⟨k2.trans h2.symm, .inl (lt_of_topD (d := d + 1) (by omega))⟩
theorem Rel.all {t : Nat} {ids : Ids} {M : Tab} {T : Hp} (hI : IsT t ids M T) {L : List RowR} (hr : Rel M L) : allL ids M = L := by
  refine sorted_ext ?_ hr.sorted fun x => ⟨fun hx => ?_, fun hx => ?_⟩
  · unfold allL
    rw [List.pairwise_append]
    refine ⟨below_sorted hI hr _ _ _ _, below_sorted hI hr _ _ _ _, fun y hy x hx => ?_⟩
    rw [ahead_iff]
    exact .inl ⟨(below_mem hI hr _ _ _ _ y hy).2.1, (below_mem hI hr _ _ _ _ x hx).2.1⟩
  · rcases List.mem_append.1 hx with h | h
    · exact (below_mem hI hr _ _ _ _ x h).1
    · exact (below_mem hI hr _ _ _ _ x h).1
  · have hb := hr.le' hx
    have := mem_below hI hr hx 129 0 (Nat.zero_le _) (by omega)
    rw [topD_zero (hr.wf x hx).1] at this
    unfold allL
    rw [List.mem_append]
    cases hv : x.v with
    | false => rw [hv] at this; exact .inl this
    | true => rw [hv] at this; exact .inr this

/-! ### Put -/
def qR (v : Bool) (n b : Nat) (o : Int) : RowR := ⟨v, topN n b, b, o⟩
theorem qR_mk (v : Bool) (n b : Nat) (o : Int) : qR v n b o = mkR v b (topD n b) o := rfl
/-- where Put puts -/
structure Spot (L : List RowR) (q : RowR) (k : Nat) : Prop where
  le : k ≤ L.length
  pre : ∀ j x, j < k → L[j]? = some x → ahead x q
  stop : ∀ x, L[k]? = some x → ¬ ahead x q
theorem split_at {L : List RowR} {k : Nat} {y : RowR} (h : L[k]? = some y) : L = L.take k ++ y :: L.drop (k + 1) := by
  have hk := (List.getElem?_eq_some_iff.1 h).1
  have hy := (List.getElem?_eq_some_iff.1 h).2
  rw [← hy, ← List.drop_eq_getElem_cons hk, List.take_append_drop]
theorem Rel.same {M : Tab} {L : List RowR} (h : Rel M L) {v : Bool} {n b : Nat} {o : Int} {k : Nat} {y : RowR} (hy : L[k]? = some y) (hs : sameK y (qR v n b o)) : M.own v b (topD n b) = some y.o := by
  have h1 := h.own_of (List.mem_of_getElem? hy)
  obtain ⟨e1, e2, e3⟩ := hs
  have e1 : y.v = v := e1
  have e2 : y.n = topN n b := e2
  have e3 : y.b = b := e3
  rw [e1, e3, e2, topN_topD, topD_mk] at h1
  exact h1
theorem Rel.other {M : Tab} {L : List RowR} (h : Rel M L) {v : Bool} {n b : Nat} {o : Int} {k : Nat} (hk : Spot L (qR v n b o) k) (hn : ∀ y, L[k]? = some y → ¬ sameK y (qR v n b o)) : M.own v b (topD n b) = none := by
  cases ho : M.own v b (topD n b) with
  | none => rfl
  | some z =>
    exfalso
    have hm := (h.own _ _ _ _).1 ho
    obtain ⟨j, hj⟩ := List.getElem?_of_mem hm
    have hs : sameK (mkR v b (topD n b) z) (qR v n b o) := ⟨rfl, rfl, rfl⟩
    rcases Nat.lt_trichotomy j k with h1 | h1 | h1
    · exact ahead_not_same (hk.pre j _ h1 hj) hs
    · subst h1; exact hn _ hj hs
    · have hkl : k < L.length := by have := (List.getElem?_eq_some_iff.1 hj).1; omega
      obtain ⟨y, hy⟩ : ∃ y, L[k]? = some y := ⟨_, List.getElem?_eq_getElem hkl⟩
      have h2 : ahead y (mkR v b (topD n b) z) := by
        have := List.pairwise_iff_getElem.1 h.sorted k j hkl (List.getElem?_eq_some_iff.1 hj).1 h1
        rw [(List.getElem?_eq_some_iff.1 hy).2, (List.getElem?_eq_some_iff.1 hj).2] at this
        exact this
      exact hk.stop y hy ((ahead_same_right hs).1 h2)
theorem Rel.own_put {M : Tab} {L L' : List RowR} (h : Rel M L) {v : Bool} {n b : Nat} {o : Int} (hs : L'.Pairwise ahead) (hq : qR v n b o ∈ L') (hm : ∀ x, ¬ sameK x (qR v n b o) → (x ∈ L' ↔ x ∈ L)) (v' : Bool) (d' m' : Nat) (o' : Int) :
    (M.put v n b o).own v' d' m' = some o' ↔ mkR v' d' m' o' ∈ L' := by
  show updK M.own v b (topD n b) (some o) v' d' m' = some o' ↔ _
  by_cases hk : v' = v ∧ d' = b ∧ m' = topD n b
  · obtain ⟨rfl, rfl, rfl⟩ := hk
    rw [updK_same]
    constructor
    · rintro ⟨⟩; exact hq
    · intro hm'
      have := sorted_same hs hm' hq ⟨rfl, rfl, rfl⟩
      have := congrArg RowR.o this
      exact congrArg some this.symm
  · rw [updK_ne _ _ hk, h.own, hm]
    rw [qR_mk, mkR_same]
    exact hk
theorem valid_top {v : Bool} {n b : Nat} (h : validA v n = true) : validA v (topN n b) = true := by
  cases v with
  | true => rfl
  | false =>
    simp only [validA, Bool.false_or, decide_eq_true_eq] at h ⊢
    obtain ⟨x, rfl⟩ := Nat.dvd_of_mod_eq_zero h
    apply Nat.mod_eq_zero_of_dvd
    rw [topN]
    by_cases hb : 96 ≤ 128 - b
    · exact Nat.dvd_trans (Nat.pow_dvd_pow 2 hb) (Nat.dvd_mul_left _ _)
    · have e : 2 ^ 96 = 2 ^ (96 - (128 - b)) * 2 ^ (128 - b) := by rw [← Nat.pow_add]; congr 1; omega
      rw [e, Nat.mul_right_comm, Nat.mul_div_cancel _ (Nat.pow_pos (by decide)), Nat.mul_right_comm]
      exact Nat.dvd_mul_right _ _
theorem q_wf {v : Bool} {n b : Nat} (hn : n < 2 ^ 128) (hp : isPfx v n (b : Nat) = true) (o : Int) : (qR v n b o).n < 2 ^ 128 ∧ isPfx (qR v n b o).v (qR v n b o).n ((qR v n b o).b : Nat) = true ∧ topN (qR v n b o).n (qR v n b o).b = (qR v n b o).n := by
  refine ⟨topN_lt hn, ?_, ?_⟩
  · show isPfx v (topN n b) (b : Nat) = true
    unfold isPfx at hp ⊢
    rw [Bool.and_eq_true] at hp ⊢
    exact ⟨valid_top hp.1, hp.2⟩
  · show topN (topN n b) b = topN n b
    rw [topN_topD, topN_topD, topD_mk]
theorem Rel.put_same {M : Tab} {L : List RowR} (h : Rel M L) {v : Bool} {n b : Nat} {o : Int} (hn : n < 2 ^ 128) (hp : isPfx v n (b : Nat) = true) {k : Nat} {y : RowR} (hy : L[k]? = some y) (hs : sameK y (qR v n b o)) :
    Rel (M.put v n b o) (L.take k ++ qR v n b o :: L.drop (k + 1)) := by
  have hspl := split_at hy
  have hsort := h.sorted
  rw [hspl, List.pairwise_append, List.pairwise_cons] at hsort
  obtain ⟨s1, ⟨s2, s3⟩, s4⟩ := hsort
  have hlen : (L.take k ++ qR v n b o :: L.drop (k + 1)).length = L.length := by
    have : L.length = (L.take k ++ y :: L.drop (k + 1)).length := congrArg List.length hspl
    rw [this]; simp
  have hsort' : (L.take k ++ qR v n b o :: L.drop (k + 1)).Pairwise ahead := by
    rw [List.pairwise_append, List.pairwise_cons]
    refine ⟨s1, ⟨fun z hz => (ahead_same_left hs).1 (s2 z hz), s3⟩, fun x hx z hz => ?_⟩
    rcases List.mem_cons.1 hz with rfl | hz
    · exact (ahead_same_right hs).1 (s4 x hx y (by simp))
    · exact s4 x hx z (by simp [hz])
  refine ⟨?_, by rw [hlen]; exact h.lim, fun x hx => ?_, hsort', h.own_put hsort' (by simp) fun x hx => ?_⟩
  · have ho : M.own v b (topD n b) = some y.o := h.same (v := v) (n := n) (b := b) (o := o) hy hs
    rw [hlen, Tab.put, ho]
    simpa using h.cnt
  · rcases List.mem_append.1 hx with hx | hx
    · exact h.wf x (List.mem_of_mem_take hx)
    · rcases List.mem_cons.1 hx with rfl | hx
      · exact q_wf hn hp o
      · exact h.wf x (List.mem_of_mem_drop hx)
  · have e1 : x ≠ qR v n b o := fun e => hx (e ▸ ⟨rfl, rfl, rfl⟩)
    have e2 : x ≠ y := fun e => hx (e ▸ hs)
    have : x ∈ L ↔ x ∈ L.take k ++ y :: L.drop (k + 1) := by rw [← hspl]
    rw [this]
    simp [e1, e2]
theorem Rel.put_new {M : Tab} {L : List RowR} (h : Rel M L) {v : Bool} {n b : Nat} {o : Int} (hn : n < 2 ^ 128) (hp : isPfx v n (b : Nat) = true) {k : Nat} (hk : Spot L (qR v n b o) k) (hno : ∀ y, L[k]? = some y → ¬ sameK y (qR v n b o)) (hl : L.length < 64) :
    Rel (M.put v n b o) (L.take k ++ qR v n b o :: L.drop k) := by
  have hspl : L = L.take k ++ L.drop k := (List.take_append_drop k L).symm
  have hsort := h.sorted
  rw [hspl, List.pairwise_append] at hsort
  obtain ⟨s1, s2, s3⟩ := hsort
  have hlen : (L.take k ++ qR v n b o :: L.drop k).length = L.length + 1 := by
    have : L.length = (L.take k ++ L.drop k).length := congrArg List.length hspl
    rw [this]; simp; omega
  have hsort' : (L.take k ++ qR v n b o :: L.drop k).Pairwise ahead := by
    rw [List.pairwise_append, List.pairwise_cons]
    refine ⟨s1, ⟨fun z hz => ?_, s2⟩, fun x hx z hz => ?_⟩
    · rcases Nat.lt_or_ge k L.length with hkl | hkl
      · have hy : L[k]? = some L[k] := List.getElem?_eq_getElem hkl
        have h0 : ahead (qR v n b o) L[k] := ahead_total (hk.stop _ hy) (hno _ hy)
        rw [List.drop_eq_getElem_cons hkl] at hz s2
        rcases List.mem_cons.1 hz with rfl | hz
        · exact h0
        · exact ahead_trans h0 ((List.pairwise_cons.1 s2).1 z hz)
      · rw [List.drop_eq_nil_of_le hkl] at hz; cases hz
    · rcases List.mem_cons.1 hz with rfl | hz
      · obtain ⟨j, hj⟩ := List.getElem?_of_mem hx
        have hjk : j < k := by have := (List.getElem?_eq_some_iff.1 hj).1; simp at this; omega
        exact hk.pre j x hjk (by rw [List.getElem?_take_of_lt hjk] at hj; exact hj)
      · exact s3 x hx z hz
  refine ⟨?_, by rw [hlen]; omega, fun x hx => ?_, hsort', h.own_put hsort' (by simp) fun x hx => ?_⟩
  · rw [hlen, Tab.put, h.other hk hno]
    simpa using h.cnt
  · rcases List.mem_append.1 hx with hx | hx
    · exact h.wf x (List.mem_of_mem_take hx)
    · rcases List.mem_cons.1 hx with rfl | hx
      · exact q_wf hn hp o
      · exact h.wf x (List.mem_of_mem_drop hx)
  · have e1 : x ≠ qR v n b o := fun e => hx (e ▸ ⟨rfl, rfl, rfl⟩)
    have : x ∈ L ↔ x ∈ L.take k ++ L.drop k := by rw [← hspl]
    rw [this]
    simp only [List.mem_append, List.mem_cons, e1, false_or]

/-! ### Drop -/
theorem Rel.drop {M : Tab} {L : List RowR} (h : Rel M L) {v : Bool} {n b : Nat} {k : Nat} {y : RowR} (hy : L[k]? = some y) (hs : sameK y (qR v n b 0)) : Rel (M.drop v n b) (L.take k ++ L.drop (k + 1)) := by
  have hspl := split_at hy
  have hsort := h.sorted
  rw [hspl, List.pairwise_append, List.pairwise_cons] at hsort
  obtain ⟨s1, ⟨s2, s3⟩, s4⟩ := hsort
  have hlen : L.length = (L.take k ++ L.drop (k + 1)).length + 1 := by
    have : L.length = (L.take k ++ y :: L.drop (k + 1)).length := congrArg List.length hspl
    rw [this]; simp; omega
  have hlim := h.lim
  have hcnt := h.cnt
  refine ⟨?_, by omega, fun x hx => ?_, ?_, fun v' d' m' o' => ?_⟩
  · show M.cnt - 1 = _
    omega
  · rcases List.mem_append.1 hx with hx | hx
    · exact h.wf x (List.mem_of_mem_take hx)
    · exact h.wf x (List.mem_of_mem_drop hx)
  · rw [List.pairwise_append]
    exact ⟨s1, s3, fun x hx z hz => s4 x hx z (by simp [hz])⟩
  · show updK M.own v b (topD n b) none v' d' m' = some o' ↔ _
    have hmem : ∀ x, x ∈ L ↔ x ∈ L.take k ++ y :: L.drop (k + 1) := fun x => by rw [← hspl]
    by_cases hk : v' = v ∧ d' = b ∧ m' = topD n b
    · obtain ⟨rfl, rfl, rfl⟩ := hk
      rw [updK_same]
      refine ⟨(fun h => by cases h), fun hm => ?_⟩
      exfalso
      have hsy : sameK (mkR v' d' (topD n d') o') y := (show sameK (mkR v' d' (topD n d') o') (qR v' n d' 0) from ⟨rfl, rfl, rfl⟩) |> fun t => ⟨t.1.trans hs.1.symm, t.2.1.trans hs.2.1.symm, t.2.2.trans hs.2.2.symm⟩
      rcases List.mem_append.1 hm with hm | hm
      · exact ahead_not_same (s4 _ hm y (by simp)) hsy
      · exact ahead_not_same (s2 _ hm) hsy.symm
    · rw [updK_ne _ _ hk, h.own, hmem]
      have hne : mkR v' d' m' o' ≠ y := fun e => hk (by
        have : sameK (mkR v' d' m' o') (mkR v b (topD n b) 0) := e ▸ hs
        exact mkR_same.1 this)
      simp [hne]
theorem Rel.nobody {M : Tab} {L : List RowR} (h : Rel M L) {v : Bool} {n b : Nat} (hno : ∀ y ∈ L, ¬ sameK y (qR v n b 0)) : M.own v b (topD n b) = none := by
  cases ho : M.own v b (topD n b) with
  | none => rfl
  | some z => exact absurd ⟨rfl, rfl, rfl⟩ (hno _ ((h.own _ _ _ _).1 ho))

/-! ### Find -/
theorem bestTo_spec (M : Tab) (v : Bool) (n : Nat) : ∀ k, match M.bestTo v n k with
    | none => ∀ i, i < k → M.own v i (topD n i) = none
    | some (d, o) => d < k ∧ M.own v d (topD n d) = some o ∧ ∀ i, d < i → i < k → M.own v i (topD n i) = none := by
  intro k
  induction k with
  | zero => exact fun i hi => by omega
  | succ k ih =>
    cases ho : M.own v k (topD n k) with
    | some o =>
      rw [bestTo_some ho]
      exact ⟨Nat.lt_succ_self k, ho, fun i h1 h2 => by omega⟩
    | none =>
      rw [bestTo_none ho]
      cases hb : M.bestTo v n k with
      | none =>
        rw [hb] at ih
        intro i hi
        by_cases e : i = k
        · rw [e]; exact ho
        · exact ih i (by omega)
      | some p =>
        obtain ⟨d, o⟩ := p
        rw [hb] at ih
        obtain ⟨h1, h2, h3⟩ := ih
        refine ⟨by omega, h2, fun i h4 h5 => ?_⟩
        by_cases e : i = k
        · rw [e]; exact ho
        · exact h3 i h4 (by omega)
theorem bestI_spec (L : List RowR) (v : Bool) (n : Nat) : ∀ i, match bestI L v n i with
    | none => ∀ j x, j < i → L[j]? = some x → hasB x.v x.n x.b v n = false
    | some k => ∃ y, L[k]? = some y ∧ hasB y.v y.n y.b v n = true ∧ ∀ j x, j < i → L[j]? = some x → hasB x.v x.n x.b v n = true → x.b ≤ y.b := by
  intro i
  induction i with
  | zero => exact fun j x h => by omega
  | succ i ih =>
    cases hx : L[i]? with
    | none =>
      have e : bestI L v n (i + 1) = bestI L v n i := by rw [bestI, hx]
      rw [e]
      cases hb : bestI L v n i with
      | none =>
        rw [hb] at ih
        intro j x hj hxj
        by_cases e : j = i
        · rw [e, hx] at hxj; cases hxj
        · exact ih j x (by omega) hxj
      | some k =>
        rw [hb] at ih
        obtain ⟨y, h1, h2, h3⟩ := ih
        refine ⟨y, h1, h2, fun j x hj hxj hh => ?_⟩
        by_cases e : j = i
        · rw [e, hx] at hxj; cases hxj
        · exact h3 j x (by omega) hxj hh
    | some z =>
      cases hz : hasB z.v z.n z.b v n with
      | false =>
        rw [bestI_no hx hz]
        cases hb : bestI L v n i with
        | none =>
          rw [hb] at ih
          intro j x hj hxj
          by_cases e : j = i
          · rw [e, hx] at hxj; cases hxj; exact hz
          · exact ih j x (by omega) hxj
        | some k =>
          rw [hb] at ih
          obtain ⟨y, h1, h2, h3⟩ := ih
          refine ⟨y, h1, h2, fun j x hj hxj hh => ?_⟩
          by_cases e : j = i
          · rw [e, hx] at hxj; cases hxj; rw [hz] at hh; cases hh
          · exact h3 j x (by omega) hxj hh
      | true =>
        cases hb : bestI L v n i with
        | none =>
          rw [hb] at ih
          rw [bestI_new hx hz hb]
          refine ⟨z, hx, hz, fun j x hj hxj hh => ?_⟩
          by_cases e : j = i
          · rw [e, hx] at hxj; cases hxj; exact Nat.le_refl _
          · rw [ih j x (by omega) hxj] at hh; cases hh
        | some k =>
          rw [hb] at ih
          obtain ⟨y, h1, h2, h3⟩ := ih
          by_cases hl : y.b < z.b
          · rw [bestI_more hx hz hb h1 hl]
            refine ⟨z, hx, hz, fun j x hj hxj hh => ?_⟩
            by_cases e : j = i
            · rw [e, hx] at hxj; cases hxj; exact Nat.le_refl _
            · have := h3 j x (by omega) hxj hh; omega
          · rw [bestI_less hx hb h1 hl, hb]
            refine ⟨y, h1, h2, fun j x hj hxj hh => ?_⟩
            by_cases e : j = i
            · rw [e, hx] at hxj; cases hxj; omega
            · exact h3 j x (by omega) hxj hh
theorem Rel.has_own {M : Tab} {L : List RowR} (h : Rel M L) {v : Bool} {n : Nat} (hn : n < 2 ^ 128) {x : RowR} (hx : x ∈ L) (hh : hasB x.v x.n x.b v n = true) : x.v = v ∧ topD x.n x.b = topD n x.b := by
  obtain ⟨h1, _, h3⟩ := hasB_true hh
  exact ⟨h1, has_top (h.wf x hx).1 hn x.b (h.le' hx) h3⟩
theorem Rel.find {M : Tab} {L : List RowR} (h : Rel M L) {v : Bool} {n : Nat} (hn : n < 2 ^ 128) : fdRes v n (fdA M v n) = docR L v n := by
  have hI := bestI_spec L v n L.length
  unfold docR
  cases hv : validA v n with
  | false =>
    have hno : ∀ x : RowR, hasB x.v x.n x.b v n = false := fun x => hasB_not fun ⟨_, h2, _⟩ => by rw [hv] at h2; cases h2
    rw [fdA, hv]
    cases hb : bestI L v n L.length with
    | none => rfl
    | some k =>
      rw [hb] at hI
      obtain ⟨y, _, h2, _⟩ := hI
      rw [hno y] at h2; cases h2
  | true =>
    have hT := bestTo_spec M v n (mostA v + 1)
    rw [fdA, hv]
    simp only [if_true]
    unfold Tab.find
    have hle : ∀ x ∈ L, x.v = v → x.b < mostA v + 1 := fun x hx e => by have := h.le hx; rw [e] at this; omega
    cases hb : bestI L v n L.length with
    | none =>
      rw [hb] at hI
      cases ht : M.bestTo v n (mostA v + 1) with
      | none => rfl
      | some p =>
        obtain ⟨d, o⟩ := p
        rw [ht] at hT
        obtain ⟨h1, h2, _⟩ := hT
        exfalso
        have hm := (h.own _ _ _ _).1 h2
        obtain ⟨j, hj⟩ := List.getElem?_of_mem hm
        have hd : d ≤ 128 := h.le' hm
        have h5 := hI j _ (List.getElem?_eq_some_iff.1 hj).1 hj
        have h6 : hasB (mkR v d (topD n d) o).v (mkR v d (topD n d) o).n (mkR v d (topD n d) o).b v n = true := hasB_of ⟨rfl, hv, fun i hi => by
          have hi : i < d := hi
          show bitA (topD n d * 2 ^ (128 - d)) i = bitA n i
          rw [← topN_topD, bit_topN n d i hd (by omega), if_pos hi]⟩
        rw [h5] at h6
        cases h6
    | some k =>
      rw [hb] at hI
      obtain ⟨y, hy, hh, hmax⟩ := hI
      have hym := List.mem_of_getElem? hy
      obtain ⟨e1, e2⟩ := h.has_own hn hym hh
      have hyo := h.own_of hym
      rw [e1, e2] at hyo
      simp only [Option.bind_some, hy]
      cases ht : M.bestTo v n (mostA v + 1) with
      | none =>
        rw [ht] at hT
        have := hT y.b (hle y hym e1)
        rw [hyo] at this; cases this
      | some p =>
        obtain ⟨d, o⟩ := p
        rw [ht] at hT
        obtain ⟨h1, h2, h3⟩ := hT
        have hm := (h.own _ _ _ _).1 h2
        obtain ⟨j, hj⟩ := List.getElem?_of_mem hm
        have hd : d ≤ 128 := h.le' hm
        have h4 : d ≤ y.b := hmax j _ (List.getElem?_eq_some_iff.1 hj).1 hj (hasB_of ⟨rfl, hv, fun i hi => by
          have hi : i < d := hi
          show bitA (topD n d * 2 ^ (128 - d)) i = bitA n i
          rw [← topN_topD, bit_topN n d i hd (by omega), if_pos hi]⟩)
        have h5 : y.b ≤ d := by
          rcases Nat.lt_or_ge d y.b with h6 | h6
          · have := h3 y.b h6 (hle y hym e1)
            rw [hyo] at this; cases this
          · exact h6
        obtain rfl : d = y.b := by omega
        rw [hyo] at h2
        cases h2
        have h7 := (h.wf y hym).2.2
        rw [topN_topD, e2, ← topN_topD] at h7
        rw [← h7, ← e1] 
        simp [fdRes, acO, acC, acP, e1, h7]
theorem Rel.wfr {M : Tab} {L : List RowR} (h : Rel M L) : WfR L := fun x hx => ⟨(h.wf x hx).1, h.le' hx⟩
end Go.Proofs.Ytnppgaohfegloaa
