/-
  Addresses, prefixes and numbers as they come into a law; what is told of them afterwards.
-/
import Derived.Test.YtnppgaohfegloaaLaws
import Derived.ProofKit
import Derived.OpenShut
namespace Go.Proofs.Ytnppgaohfegloaa
open Go.ChangeShapes Go.WideShapes Go.ChangeAt Go.RowKit

theorem Try.own : ownKnob Try.prog.godebug = none := by kernel_rfl
theorem Try.laidOut : laidOutB Try.prog = true := by kernel_rfl
theorem cells24 : Try.prog.cellsOf 24 = 17 := by kernel_rfl
theorem cells31 : Try.prog.cellsOf 31 = 18 := by kernel_rfl
theorem ct24 : Try.prog.cellTypes Try.prog.depth 24 = some [4, 5, 5, 5, 5, 5, 5, 5, 5, 5, 5, 5, 5, 5, 5, 5, 5] := by kernel_rfl
theorem ct31 : Try.prog.cellTypes Try.prog.depth 31 = some [4, 5, 5, 5, 5, 5, 5, 5, 5, 5, 5, 5, 5, 5, 5, 5, 5, 3] := by kernel_rfl
section
variable {w : World} {r : Reach} {b0 : Nat}
theorem open_bool {v : Value} (h : Cell.okWide Try.prog w r b0 4 v) : ∃ b, v = .bool b := by
  cases v <;> simp [Cell.okWide, Cell.ok, Try.underlying4] at h ⊢
theorem open_int {v : Value} (h : Cell.okWide Try.prog w r b0 3 v) : ∃ z, v = .int .i64 z ∧ IntKind.i64.has z := by
  cases v with
  | int k z =>
    simp [Cell.okWide, Cell.ok, Try.underlying3] at h
    obtain ⟨rfl, h⟩ := h
    exact ⟨z, rfl, h⟩
  | _ => simp [Cell.okWide, Cell.ok, Try.underlying3] at h
theorem open_u8 {v : Value} (h : Cell.okWide Try.prog w r b0 5 v) : ∃ z : Nat, z < 256 ∧ v = .int .u8 (z : Nat) := by
  cases v with
  | int k z =>
    simp [Cell.okWide, Cell.ok, Try.underlying5] at h
    obtain ⟨rfl, h⟩ := h
    have h1 : IntKind.u8.min = 0 := by decide
    have h2 : IntKind.u8.max = 255 := by decide
    obtain ⟨h3, h4⟩ := h
    rw [h1] at h3
    rw [h2] at h4
    exact ⟨z.toNat, by omega, by rw [Int.toNat_of_nonneg h3]⟩
  | _ => simp [Cell.okWide, Cell.ok, Try.underlying5] at h
/-- sixteen bytes are a number's -/
theorem num_of (f : Nat → Nat) (hf : ∀ i, i < 16 → f i < 256) : ∃ n, n < 2 ^ 128 ∧ ∀ i, i < 16 → byteV n (15 - i) = .int .u8 (f i : Nat) := by
  refine ⟨ofB (fun i => f (15 - i)) 16, ?_, fun i hi => ?_⟩
  · exact Nat.lt_of_lt_of_le (ofB_lt _ 16 fun i hi => hf (15 - i) (by omega)) (by decide)
  · rw [byteV, ofB_byte _ 16 (fun i hi => hf (15 - i) (by omega)) (15 - i) (by omega), show 15 - (15 - i) = i by omega]
theorem open_addr {v : Value} (h : Value.okWide Try.prog w r b0 24 v) : ∃ b n, n < 2 ^ 128 ∧ v = .agg (adc b n) := by
  obtain ⟨cs, rfl, hsz, ts, hts, _, hc⟩ : ∃ cs, v = .agg cs ∧ cs.size = Try.prog.cellsOf 24 ∧ Row.okWide Try.prog w r b0 24 cs := by
    simpa [Value.okWide, Try.underlying24] using h
  rw [ct24] at hts
  cases hts
  rw [cells24] at hsz
  obtain ⟨b, hb⟩ : ∃ b, cs[0]? = some (.bool b) := by
    obtain ⟨u, hu, hk⟩ := hc 0 cs[0] (by simp)
    cases hu
    obtain ⟨b, hb⟩ := open_bool hk
    exact ⟨b, by rw [Array.getElem?_eq_getElem (by omega), hb]⟩
  have each : ∀ i, i < 16 → ∃ z : Nat, z < 256 ∧ cs[1 + i]? = some (.int .u8 (z : Nat)) := by
    intro i hi
    obtain ⟨u, hu, hk⟩ := hc (1 + i) (cs[1 + i]'(by omega)) (by rw [Array.getElem?_eq_getElem])
    have hu5 : u = 5 := by
      have : i = 0 ∨ i = 1 ∨ i = 2 ∨ i = 3 ∨ i = 4 ∨ i = 5 ∨ i = 6 ∨ i = 7 ∨ i = 8 ∨ i = 9 ∨ i = 10 ∨ i = 11 ∨ i = 12 ∨ i = 13 ∨ i = 14 ∨ i = 15 := by omega
      rcases this with rfl | rfl | rfl | rfl | rfl | rfl | rfl | rfl | rfl | rfl | rfl | rfl | rfl | rfl | rfl | rfl <;> (cases hu; rfl)
    subst hu5
    obtain ⟨z, hz, he⟩ := open_u8 hk
    exact ⟨z, hz, by rw [Array.getElem?_eq_getElem (by omega), he]⟩
  let f : Nat → Nat := fun i => match cs[1 + i]? with | some (.int .u8 z) => z.toNat | _ => 0
  have hf1 : ∀ i, i < 16 → f i < 256 ∧ cs[1 + i]? = some (.int .u8 (f i : Nat)) := by
    intro i hi
    obtain ⟨z, h1, h2⟩ := each i hi
    have : f i = z := by simp only [f, h2, Int.toNat_natCast]
    rw [this]
    exact ⟨h1, h2⟩
  obtain ⟨n, hn, hnb⟩ := num_of f fun i hi => (hf1 i hi).1
  refine ⟨b, n, hn, ?_⟩
  congr 1
  apply Array.ext_getElem?
  intro i
  rcases Nat.lt_or_ge i 17 with hi | hi
  · cases i with
    | zero => rw [hb]; rfl
    | succ i =>
      rw [show i + 1 = 1 + i by omega, (hf1 i (by omega)).2, adc_get b n i (by omega), hnb i (by omega)]
  · rw [Array.getElem?_eq_none (by omega), Array.getElem?_eq_none (by rw [size_adc]; omega)]
end
/-- The end of a call that turned nothing of the caller's memory. -/
theorem post_of_below {H : Type} {enc : TypeId × Value → H} {P : Program} {f : Func} {s : ChangeSpec} {apart fresh handsOn again : Bool} {W W' : World} {args : Array Value} {v : Value} {ds gs : List (DataW H)} {before pa pv : List MemPlace}
    (hW : DataW.Whole enc P f.params.toList s.vars apart W args.toList ds gs before) (hb : Below W.heap.size W W')
    (hres : ∀ (b : Nat) (sp : Nat → Bool) (hd : Bool), DataW.TrodAll enc P W' b sp hd f.resultTypes.toList (v.resultList f.resultTypes.size) (s.fn H (ds ++ gs)).results [])
    (hargs : ∀ sp : Nat → Bool, (∀ p ∈ before, sp p.block = true) → DataW.TrodAll enc P W' 0 sp true f.params.toList args.toList (s.fn H (ds ++ gs)).args pa)
    (hvars : ∀ sp : Nat → Bool, (∀ p ∈ before, sp p.block = true) → DataW.TrodVars enc P W' sp s.vars (s.fn H (ds ++ gs)).vars pv)
    (hps : before = pa ++ pv)
    (hok : ∀ (j : Nat) (t : TypeId) (r : Value), f.resultTypes[j]? = some t → (v.resultList f.resultTypes.size)[j]? = some r → Value.okWide P W' .any 0 t r) :
    s.post enc P f apart fresh handsOn again W args v W' := by
  have hold : ∀ p ∈ before, (fun b => decide (b < W.heap.size)) p.block = true := fun p hp => by simpa using hW.lt p hp
  have hlt := hW.lt
  refine ⟨ds, gs, before, [], pa, pv, hW, hres _ _ _, hargs _ hold, hvars _ hold, World.keptBut_mono (fun p hp => ⟨hp, ?_⟩) (hb.frame (· ∈ before)), fun _ => ?_⟩
  · rw [hps, List.mem_append] at hp
    exact Or.inr hp
  · obtain ⟨_, _, _, _, _, hz, hn⟩ := hW
    refine ⟨hok, _, _, ([] ++ pa) ++ pv, ⟨[] ++ pa, pv, trodAll_append (hargs _ (fun _ _ => rfl)) (hres _ _ _), hvars _ (fun _ _ => rfl), rfl, ?_, ?_⟩, ?_⟩
    · intro b off hp
      have hp' : MemPlace.cell b off ∈ before := by rw [hps]; simpa using hp
      have hl : b < W.heap.size := hlt _ hp'
      rw [hb.frozen (p := ⟨b, off, none⟩) hl]
      exact hz b off hp'
    · intro ha
      have := hn ha
      rw [hps] at this
      simpa using this
    · intro p hp _
      rw [hps]
      simpa using hp
end Go.Proofs.Ytnppgaohfegloaa
