/-
  The row of aditlaw01's FieldSums, its first form, proved: whatever the slice of arrays of 32 bytes, the call returns true, on every tape, and the argument reads as before. No condition.
-/
import Derived.Test.YtnbdeajjfhlmnaaShape
import Derived.Test.YtnbdeajjfhlmnaaSums
import Derived.SizedLaws
namespace Go.Proofs.Ytnbdeajjfhlmnaa
open Go.ChangeShapes Go.WideShapes Go.ChangeAt Go.RowKit

theorem Try.laidOut : laidOutB Try.prog = true := by kernel_rfl
section
variable {H : Type} {enc : TypeId × Value → H} {w : World} {base : Nat} {spare : Nat → Bool} {held : Bool}
theorem open_cells24 {fuel : Nat} {cs : List Value} {x : DataW H × List MemPlace} (h : DataW.trod enc Try.prog w base spare held fuel 24 cs = some x) : ∃ n, n < 2 ^ 256 ∧ cs = (bvc n).toList := by
  obtain ⟨xs, m, _, ex, hcl, hl, hel⟩ := DataW.trod_array Try.underlying24 h
  rw [cells24] at hcl
  have each : ∀ i, i < 32 → ∃ z : Nat, z < 256 ∧ cs[i]? = some (.int .u8 z) := by
    intro i hi
    have hE := hel i hi
    rw [cells5, Nat.mul_one, List.getElem?_eq_getElem (by omega)] at hE
    obtain ⟨z, e1, e2, hw⟩ := DataW.trod_int Try.underlying5 hE
    have hb := bounds_u8 hw
    refine ⟨z.toNat, by omega, ?_⟩
    have h0 : ((cs.drop i).take 1)[0]? = some (.int .u8 z) := by rw [e1]; rfl
    have h1 : cs[i]? = some (.int .u8 z) := by simpa using h0
    rw [h1]; congr 2; omega
  let f : Nat → Nat := fun i => match cs[i]? with | some (.int .u8 z) => z.toNat | _ => 0
  have hf1 : ∀ i, i < 32 → f i < 256 ∧ cs[i]? = some (.int .u8 (f i)) := by
    intro i hi
    obtain ⟨z, h1, h2⟩ := each i hi
    have : f i = z := by simp only [f, h2, Int.toNat_natCast]
    rw [this]
    exact ⟨h1, h2⟩
  have hcs : cs.toArray = bvc (ofB f 32) := bvc_of cs.toArray f (by simpa using hcl) (fun i hi => by rw [List.getElem?_toArray]; exact (hf1 i hi).2) (fun i hi => (hf1 i hi).1)
  exact ⟨ofB f 32, Nat.lt_of_lt_of_le (ofB_lt f 32 fun i hi => (hf1 i hi).1) (by decide), by rw [← hcs]⟩
/-- a slice of arrays, opened -/
theorem open_s22 {r : Reach} {b0 : Nat} {v : Value} {d : DataW H} {ps : List MemPlace} (hval : Value.okWide Try.prog w r b0 22 v) (hd : DataW.Trod enc Try.prog w base spare held 22 v d ps) :
    ∃ l : List Nat, (∀ j, l.getD j 0 < 2 ^ 256) ∧ Sl w v l ∧ (l = [] ∨ ∃ elems spare, d = .slice elems spare ∧ l.length ≤ elems.length) := by
  obtain ⟨fuel, hf⟩ := hd
  have hcell : v.cells.toList = [v] := by
    have := hval
    cases v <;> first | rfl | (simp [Value.okWide, Try.underlying22, Cell.okWide, Cell.ok] at this)
  rw [hcell] at hf
  rcases DataW.trod_slice Try.underlying22 hf with ⟨h1, h2⟩ | ⟨a, len, cap, elems, rest, n, _, h1, h2, _, hle, _, hel, hcells, _, _⟩
  · obtain rfl : v = .slice none 0 0 := by simpa using h1
    exact ⟨[], fun j => by simp, ⟨none, 0, rfl, Nat.le_refl _, fun j hj => absurd hj (Nat.not_lt_zero j)⟩, .inl rfl⟩
  · obtain rfl : v = .slice (some a) len cap := by simpa using h1
    have each : ∀ i, i < len → ∃ m, m < 2 ^ 256 ∧ ∀ k, k < 32 → w.cell? ((a.add (i * 32)).add k) = some (byteV m k) := by
      intro i hi
      have h3 := hcells i hi
      rw [cells24, List.getElem?_eq_getElem (by omega)] at h3
      obtain ⟨cs, hc1, hc2⟩ := Option.bind_eq_some_iff.1 h3
      obtain ⟨m, hm, hcs⟩ := open_cells24 hc2
      refine ⟨m, hm, fun k hk => ?_⟩
      unfold World.cells? at hc1
      split at hc1
      · have := mapM_some_get hc1 k k (by simp [hk])
        rw [this, hcs, Array.getElem?_toList]
        exact get_bvc_lt m k hk
      · cases hc1
    have key : ∀ n, n ≤ len → ∃ l : List Nat, l.length = n ∧ (∀ j, l.getD j 0 < 2 ^ 256) ∧ ∀ j, j < n → ∀ k, k < 32 → w.cell? ((a.add (j * 32)).add k) = some (byteV (l.getD j 0) k) := by
      intro n
      induction n with
      | zero => exact fun _ => ⟨[], rfl, fun j => by simp, fun j hj => absurd hj (Nat.not_lt_zero j)⟩
      | succ n ih =>
        intro hn
        obtain ⟨l, hl1, hl2, hl3⟩ := ih (by omega)
        obtain ⟨m, hm, hc⟩ := each n (by omega)
        have hget : ∀ j, (l ++ [m]).getD j 0 = if j < n then l.getD j 0 else if j = n then m else 0 := by
          intro j
          simp only [List.getD_eq_getElem?_getD]
          by_cases h1 : j < n
          · rw [if_pos h1, List.getElem?_append_left (by omega)]
          · rw [if_neg h1, List.getElem?_append_right (by omega), hl1]
            by_cases h2 : j = n
            · subst h2; simp
            · rw [if_neg h2, List.getElem?_eq_none (by simp; omega)]; rfl
        refine ⟨l ++ [m], by simp [hl1], fun j => ?_, fun j hj k hk => ?_⟩
        · rw [hget]
          split
          · exact hl2 j
          · split
            · exact hm
            · decide
        · rw [hget]
          by_cases h1 : j < n
          · rw [if_pos h1]; exact hl3 j h1 k hk
          · obtain rfl : j = n := by omega
            rw [if_neg h1, if_pos rfl]; exact hc k hk
    obtain ⟨l, hl1, hl2, hl3⟩ := key len (Nat.le_refl _)
    refine ⟨l, hl2, ⟨some a, cap, by rw [hl1], by omega, fun j hj => ?_⟩, ?_⟩
    · obtain ⟨g, off, sp⟩ := a
      have hc := hl3 j (by omega)
      cases sp with
      | none =>
        refine ⟨g, off, rfl, fun k hk => ?_⟩
        have := hc k hk
        rw [add_none, add_none] at this
        exact this
      | some s =>
        exfalso
        have h0 := hl3 0 (by omega) 0 (by decide)
        have ha : (((⟨g, off, some s⟩ : Addr).add (0 * 32)).add 0) = ⟨g, off, some s⟩ := rfl
        rw [ha] at h0
        unfold World.cell? at h0
        split at h0
        · cases h0
        · cases h0
    · exact .inr ⟨_, _, (Prod.mk.inj h2).1, by rw [List.length_map]; omega⟩
end

set_option maxRecDepth 100000 in
theorem fieldSumsAny_lifted (os : Os) (started : os.Started) (H : Type) (enc : TypeId × Value → H) :
    ReturnsInHanded {} Try.checked os 3 .any (Rows.fieldSumsSpec.pre6 enc Try.prog Try.f3 Rows.fieldSumsRow.domain false) (Rows.fieldSumsSpec.post enc Try.prog Try.f3 false true false false) := by
  refine returnsInHanded_of_change_sized (C := Try.checked) Try.own started (by kernel_rfl) Try.func3
    (ChangeSpec.witness6 (enc := enc) (C := Try.checked) false ⟨#[], #[.slice none 0 0], []⟩ 8 (by kernel_rfl) (by kernel_rfl) (by kernel_rfl) (by kernel_rfl)) ?_
  intro W base args ds gs before hval0 hW _ hsz0 _
  have hval : ∀ (j : Nat) t v, Try.f3.params[j]? = some t → args[j]? = some v → Value.okWide Try.prog W .any base t v := hval0
  have hsz : (DataW.weightsEach Try.prog (Try.f3.params.toList ++ Rows.fieldSumsSpec.plain.varTypes Try.prog) (ds ++ gs)).all (· ≤ reachBytes) = true := hsz0
  have hW' := hW
  obtain ⟨p, q, hA0, hV, rfl, _, _⟩ := hW
  have hA : DataW.TrodAll enc Try.prog W 0 (fun _ => true) true Try.f3.params.toList args.toList ds p := hA0
  rw [Try.params3] at hA hval hsz
  obtain ⟨v0, d0, rfl, rfl, h0⟩ := trodAll_one hA
  obtain ⟨rfl, rfl⟩ := trodVars_none hV
  obtain ⟨l, hl, hsl, hlong⟩ := open_s22 (hval 0 22 v0 rfl rfl) h0
  have hlen : l.length ≤ 4398046511102 := by
    rcases hlong with rfl | ⟨elems, spare, rfl, hle⟩
    · simp
    · have h1 := sized_slice hsz (j := 0) (t := 22) (e := 24) rfl rfl Try.underlying22
      have h2 : Try.prog.bytesOf 24 = 32 := by kernel_rfl
      rw [h2] at h1
      unfold reachBytes at h1
      omega
  clear hA0 hval0 hsz0 hsz
  simp only [List.append_nil] at hW'
  have hlt := hW'.lt
  refine (law3_any l hl hlen v0 W hsl).mono fun e W' ⟨he, hw⟩ => ?_
  subst he
  exact ⟨_, rfl, post_of_below (pa := p) (pv := []) hW' hw (fun _ _ _ => trodAll_mk1 (shut_bool Try.underlying4 _))
    (fun sp hsp => trodAll_mk1 (WideElems.Trod_stays Try.laidOut (by kernel_rfl) (of_decide_eq_true (by kernel_rfl)) h0 (fun x hx => hw.same (hlt x hx)) (fun x hx => hsp x hx))) (fun _ _ => rfl) (by simp)
    (ok_one (by kernel_rfl) rfl (okWide_bool_mk Try.underlying4 _))⟩

theorem fieldSumsAny_holds : Rows.FieldSumsSaid :=
  OpenClaim.holds_of_wide 3 Try.f3 rfl rfl rfl rfl rfl rfl rfl ⟨rfl, rfl, rfl, rfl, rfl⟩ rfl rfl rfl rfl rfl (by kernel_rfl) Try.func3 (by kernel_rfl)
    (of_decide_eq_true (by kernel_rfl)) (by unfold Func.isWrapper; first | (rw [if_pos (by decide +kernel)]; kernel_rfl) | (rw [if_neg (by decide +kernel)]; exact ⟨rfl, rfl⟩))
    (fun os started H enc _ => fieldSumsAny_lifted os started H enc)

#print axioms fieldSumsAny_holds
end Go.Proofs.Ytnbdeajjfhlmnaa
