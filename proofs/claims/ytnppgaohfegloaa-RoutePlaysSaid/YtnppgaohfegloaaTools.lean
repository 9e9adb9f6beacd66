/-
  Loops by a measure; a new block that becomes a part of what is said of the memory; what a call leaves as it was.
-/
import Derived.Test.YtnppgaohfegloaaTrie
namespace Go.Proofs.Ytnppgaohfegloaa
open Go.RowKit

theorem rep_loop_by {α : Type} {P : Program} {N : Nat} {ρ : Pl} {F : Fr} {a : Act} {w : World} {body : Code} {Q : Exit → Act → World → Prop} (μ : α → Nat) (S : α → St) (I : α → Prop) (x : α) (hI : I x) (h0 : Rep N (S x) ρ F a w)
    (round : ∀ x ρ a w, I x → Rep N (S x) ρ F a w → body.wp P (Exit.then (fun a' w' => ∃ y ρ', μ y < μ x ∧ I y ∧ Rep N (S y) ρ' F a' w') Q) a w) : (Code.loop body).wp P Q a w := by
  refine wp_loop_ghost (fun m a w => ∃ x ρ, μ x = m ∧ I x ∧ Rep N (S x) ρ F a w) (μ x) ⟨x, ρ, rfl, hI, h0⟩ ?_
  rintro m a w ⟨x, ρ, rfl, hI, h⟩
  refine wp_mono (round x ρ a w hI h) ?_
  intro e a' w' hq
  cases e with
  | normal => obtain ⟨y, ρ', hlt, hI', h'⟩ := hq; exact ⟨μ y, hlt, y, ρ', rfl, hI', h'⟩
  | exit id => exact hq
  | goto l => exact hq
  | ret => exact hq
  | panic ch => exact hq
  | outgrown => exact hq

def slotsAb (ρ : Pl) (j : Nat) (S : St) : List (Nat × AV) → Prop
  | [] => True
  | p :: r => ((S.slot p.1 = some p.2 ∧ p.2.id? ≠ some j) ∨ ∃ off, S.slot p.1 = some (.p j off) ∧ p.2 = .v (.pointer (some ⟨ρ j, off, none⟩))) ∧ slotsAb ρ j S r
theorem slotsAb_mem {ρ : Pl} {j : Nat} {S : St} : ∀ {l : List (Nat × AV)}, slotsAb ρ j S l → ∀ p ∈ l, ((S.slot p.1 = some p.2 ∧ p.2.id? ≠ some j) ∨ ∃ off, S.slot p.1 = some (.p j off) ∧ p.2 = .v (.pointer (some ⟨ρ j, off, none⟩)))
  | q :: l, h, p, hp => by
    rcases List.mem_cons.1 hp with rfl | hp
    · exact h.1
    · exact slotsAb_mem h.2 p hp
theorem memIn_mem {S : St} : ∀ {l : List (Nat × Blk)}, memIn S l → ∀ p ∈ l, S.blk p.1 = some p.2
  | q :: l, h, p, hp => by
    rcases List.mem_cons.1 hp with rfl | hp
    · exact h.1
    · exact memIn_mem h.2 p hp
/-- a block of its own becomes a part of a larger thing -/
theorem Rep.absorb {N : Nat} {S : St} {ρ : Pl} {F : Fr} {a : Act} {w : World} (h : Rep N S ρ F a w) {i j : Nat} {T : Hp} {cs : Array Value} {ty : TypeId} (hi : S.blk i = some (.ext (heapA T))) (hj : S.blk j = some (.mk cs ty))
    (sl : List (Nat × AV)) (rest : List (Nat × Blk)) (hs : slotsAb ρ j S sl) (hm : memIn S rest) (hne : (rest.all fun p => p.1 != i && p.1 != j) = true) (hij : (i != j) = true)
    (hl : liveB ⟨sl, (i, .ext (heapA (T.set (ρ j) (cobj cs ty)))) :: rest⟩ = true) :
    T (ρ j) = none ∧ Rep N ⟨sl, (i, .ext (heapA (T.set (ρ j) (cobj cs ty)))) :: rest⟩ ⟨ρ.num, fun k => if k = i then fun n => T.set (ρ j) (cobj cs ty) n ≠ none else ρ.foot k⟩ F a w := by
  have hi0 := h.mem i _ hi
  have hj0 := h.mem j _ hj
  have hij' : i ≠ j := by simpa using hij
  have hfj : ρ.foot j (ρ j) := by rw [hj0.2]
  have hTq : T (ρ j) = none := by
    cases hT : T (ρ j) with
    | none => rfl
    | some o =>
      have hf : ρ.foot i (ρ j) := by rw [hi0.1]; simp [hT]
      exact absurd (h.inj _ _ _ _ _ hi hj hf hfj) hij'
  have hblk : ∀ k b, St.blk ⟨sl, (i, .ext (heapA (T.set (ρ j) (cobj cs ty)))) :: rest⟩ k = some b → (k = i ∧ b = .ext (heapA (T.set (ρ j) (cobj cs ty)))) ∨ (k ≠ i ∧ k ≠ j ∧ S.blk k = some b) := by
    intro k b hk
    have hmem := lookup_mem hk
    rcases List.mem_cons.1 hmem with h1 | h1
    · cases h1; exact .inl ⟨rfl, rfl⟩
    · have h2 := List.all_eq_true.1 hne _ h1
      simp only [Bool.and_eq_true, bne_iff_ne, ne_eq] at h2
      exact .inr ⟨h2.1, h2.2, memIn_mem hm _ h1⟩
  have hdom : ∀ n, T.set (ρ j) (cobj cs ty) n ≠ none → n = ρ j ∨ ρ.foot i n := by
    intro n hn
    by_cases e : n = ρ j
    · exact .inl e
    · rw [Hp.set_ne _ _ e] at hn
      exact .inr (by rw [hi0.1]; exact hn)
  refine ⟨hTq, h.defers, h.size, fun k av hk => ?_, fun k b hk => ?_, fun k b hk n hn => ?_, fun k l b c n hk hl' hn hm' => ?_, fun k av m hk hm' => ?_, h.keeps⟩
  · rcases slotsAb_mem hs _ (lookup_mem hk) with ⟨h1, _⟩ | ⟨off, h1, h2⟩
    · exact h.slots k av h1
    · have := h.slots _ _ h1
      simp only at h2 this
      rw [this, h2]
      rfl
  · rcases hblk k b hk with ⟨rfl, rfl⟩ | ⟨h1, _, h3⟩
    · simp only [if_true]
      refine ⟨rfl, fun n o hn => ?_⟩
      by_cases e : n = ρ j
      · subst e
        rw [Hp.set_same] at hn
        cases hn
        exact hj0.1
      · rw [Hp.set_ne _ _ e] at hn
        exact hi0.2 n o hn
    · simp only [if_neg h1]
      exact h.mem k b h3
  · rcases hblk k b hk with ⟨rfl, rfl⟩ | ⟨h1, _, h3⟩
    · simp only [if_true] at hn
      rcases hdom n hn with rfl | h4
      · exact h.own j _ hj _ hfj
      · exact h.own k _ hi _ h4
    · simp only [if_neg h1] at hn
      exact h.own k b h3 n hn
  · rcases hblk k b hk with ⟨rfl, rfl⟩ | ⟨h1, h2, h3⟩ <;> rcases hblk l c hl' with ⟨rfl, rfl⟩ | ⟨h4, h5, h6⟩
    · rfl
    · simp only [if_true] at hn
      simp only [if_neg h4] at hm'
      rcases hdom n hn with rfl | h7
      · exact absurd (h.inj _ _ _ _ _ hj h6 hfj hm').symm h5
      · exact h.inj _ _ _ _ _ hi h6 h7 hm'
    · simp only [if_neg h1] at hn
      simp only [if_true] at hm'
      rcases hdom n hm' with rfl | h7
      · exact absurd (h.inj _ _ _ _ _ h3 hj hn hfj) h2
      · exact h.inj _ _ _ _ _ h3 hi hn h7
    · simp only [if_neg h1] at hn
      simp only [if_neg h4] at hm'
      exact h.inj _ _ _ _ _ h3 h6 hn hm'
  · have := List.all_eq_true.1 hl _ (lookup_mem hk)
    simp only [hm'] at this
    exact Option.isSome_iff_exists.1 this
/-- what was only read is as it was -/
theorem Rep.below_of {N : Nat} {S : St} {ρ : Pl} {W : World} {T : Hp} {M : Nat → Prop} {a : Act} {w : World} (h : Rep N S ρ { W := W, M := M } a w) {i : Nat} (hi : S.blk i = some (.ext (heapA T))) (hM : ∀ n, M n → T n ≠ none) (hT : ∀ n o, T n = some o → hp W n = some o) : Below W.heap.size W w := by
  refine ⟨h.keeps.os, h.keeps.tape, h.keeps.output, h.keeps.size, fun k hk => ?_⟩
  by_cases hm : M k
  · cases hTk : T k with
    | none => exact absurd hTk (hM k hm)
    | some o =>
      have h1 := (h.mem i _ hi).2 k o hTk
      have h2 := hT k o hTk
      exact Eq.trans h1 h2.symm
  · exact h.keeps.block k hk hm
theorem Hp.set_comm (T : Hp) {a b : Nat} (o o' : Obj) (h : a ≠ b) : (T.set a o).set b o' = (T.set b o').set a o := by
  funext n
  unfold Hp.set
  by_cases h1 : n = b
  · subst h1
    have : ¬ n = a := fun e => h e.symm
    simp [this]
  · simp [h1]
section
variable {F : Fr} {ops : Array Oper} {S : St} {o : Oper}
theorem o_at58 (hw : want ops S o = some true) {x ix : Operand} (ho : o.op = .indexAddr 58 x ix) {b off off' : Nat} {k : IntKind} {j : Nat} (hx : S.av x = some (.v (.pointer (some ⟨b, off, none⟩)))) (hi : S.av ix = some (.v (.int k j))) (hj : j < 2) (h1 : off + j = off') :
    OpOK Try.prog F ops o S { val := .v (.pointer (some ⟨b, off', none⟩)) } := by
  subst h1
  have := ok_index_arr_v (F := F) hw ho hx hi u58 sz57 hj
  rwa [Nat.mul_one] at this
end
end Go.Proofs.Ytnppgaohfegloaa
