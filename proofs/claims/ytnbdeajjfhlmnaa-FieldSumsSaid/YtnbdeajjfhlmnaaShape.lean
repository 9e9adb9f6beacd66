/-
  Arrays of 32 bytes as data: opened, and shut again.
-/
import Derived.Test.YtnbdeajjfhlmnaaAwake
import Derived.ProofKit
import Derived.OpenShut
namespace Go.Proofs.Ytnbdeajjfhlmnaa
open Go.ChangeShapes Go.WideShapes Go.ChangeAt Go.RowKit

theorem Try.own : ownKnob Try.prog.godebug = none := by kernel_rfl
theorem cells24 : Try.prog.cellsOf 24 = 32 := by kernel_rfl
theorem cells5 : Try.prog.cellsOf 5 = 1 := by kernel_rfl

def dB (H : Type) (n : Nat) : DataW H := .agg ((List.range 32).map fun i => .lit (.int .u8 (byteOf n i)))
theorem byte_wf (n i : Nat) : (Lit.int .u8 (byteOf n i)).wf = true := by
  have h := byteOf_lt n i
  simp [Lit.wf, IntKind.min, IntKind.max, IntKind.signed, IntKind.bits]
  omega

section
variable {H : Type} {enc : TypeId × Value → H} {w : World} {base : Nat} {spare : Nat → Bool} {held : Bool}

theorem mapM_of_get {α β : Type} {f : α → Option β} : ∀ {l : List α} {ys : List β}, l.length = ys.length → (∀ (i : Nat) (x : α), l[i]? = some x → f x = ys[i]?) → l.mapM f = some ys
  | [], [], _, _ => rfl
  | x :: l, y :: ys, hl, h => by
    have h0 := h 0 x rfl
    have ht := mapM_of_get (f := f) (l := l) (ys := ys) (by simpa using hl) (fun i z hz => by simpa using h (i + 1) z (by simpa using hz))
    simp only [List.getElem?_cons_zero] at h0
    simp [List.mapM_cons, h0, ht]

theorem shut_b32 (n : Nat) : DataW.Trod enc Try.prog w base spare held 24 (bv n) (dB H n) [] := by
  refine ⟨2, ?_⟩
  unfold DataW.trod
  rw [Try.underlying24]
  simp only [cells_bv, Array.length_toList, size_bvc, cells24, if_true, cells5, Nat.mul_one]
  have : (List.range 32).mapM (fun i => DataW.trod enc Try.prog w base spare held 1 5 (((bvc n).toList.drop i).take 1)) = some ((List.range 32).map fun i => ((.lit (.int .u8 (byteOf n i)) : DataW H), ([] : List MemPlace))) := by
    refine mapM_of_get (by simp) fun i x hx => ?_
    have hi : i < 32 := by
      have := (List.getElem?_eq_some_iff.1 hx).1
      simpa using this
    have hx' : x = i := by
      rw [List.getElem?_range (by simpa using hi)] at hx
      exact (Option.some.inj hx).symm
    subst hx'
    have hg : (bvc n).toList[x]? = some (byteV n x) := by rw [Array.getElem?_toList]; exact get_bvc_lt n x hi
    have hd : ((bvc n).toList.drop x).take 1 = [byteV n x] := by
      obtain ⟨hlt, he⟩ := List.getElem?_eq_some_iff.1 hg
      rw [List.drop_eq_getElem_cons hlt, he]
      rfl
    rw [hd]
    have hw := byte_wf n x
    unfold DataW.trod
    simp only [Try.underlying5, byteV, hw, List.getElem?_map]
    rw [List.getElem?_range (by simpa using hi)]
    simp
  rw [this]
  simp [dB, List.map_map, Function.comp_def]

theorem open_b32 {r : Reach} {b0 : Nat} {v : Value} {d : DataW H} {ps : List MemPlace} (hval : Value.okWide Try.prog w r b0 24 v) (hd : DataW.Trod enc Try.prog w base spare held 24 v d ps) :
    ∃ n, n < 2 ^ 256 ∧ v = bv n ∧ d = dB H n ∧ ps = [] := by
  obtain ⟨cs, rfl, hsz, _⟩ : ∃ cs, v = .agg cs ∧ cs.size = Try.prog.cellsOf 24 ∧ Row.okWide Try.prog w r b0 24 cs := by
    simpa [Value.okWide, Try.underlying24] using hval
  rw [cells24] at hsz
  obtain ⟨fuel, hf⟩ := hd
  obtain ⟨xs, m, _, ex, _, hl, hel⟩ := DataW.trod_array Try.underlying24 hf
  have each : ∀ i, i < 32 → ∃ z : Nat, z < 256 ∧ cs[i]? = some (.int .u8 z) ∧ xs[i]? = some ((.lit (.int .u8 z) : DataW H), ([] : List MemPlace)) := by
    intro i hi
    have hE := hel i hi
    rw [cells5, Nat.mul_one, List.getElem?_eq_getElem (by omega)] at hE
    obtain ⟨z, e1, e2, hw⟩ := DataW.trod_int Try.underlying5 hE
    have hb := bounds_u8 hw
    refine ⟨z.toNat, by omega, ?_, ?_⟩
    · have h0 : ((cs.toList.drop i).take 1)[0]? = some (.int .u8 z) := by
        have e1' : (cs.toList.drop i).take 1 = [.int .u8 z] := e1
        rw [e1']; rfl
      have h1 : cs[i]? = some (.int .u8 z) := by simpa using h0
      rw [h1]; congr 2; omega
    · rw [List.getElem?_eq_getElem (by omega : i < xs.length), e2]; congr 3; congr 1; congr 1; omega
  let f : Nat → Nat := fun i => match cs[i]? with | some (.int .u8 z) => z.toNat | _ => 0
  have hf1 : ∀ i, i < 32 → f i < 256 ∧ cs[i]? = some (.int .u8 (f i)) ∧ xs[i]? = some ((.lit (.int .u8 (f i)) : DataW H), ([] : List MemPlace)) := by
    intro i hi
    obtain ⟨z, h1, h2, h3⟩ := each i hi
    have : f i = z := by simp only [f, h2, Int.toNat_natCast]
    rw [this]
    exact ⟨h1, h2, h3⟩
  have hcs : cs = bvc (ofB f 32) := bvc_of cs f hsz (fun i hi => (hf1 i hi).2.1) (fun i hi => (hf1 i hi).1)
  have hxs : xs = (List.range 32).map fun i => ((.lit (.int .u8 (byteOf (ofB f 32) i)) : DataW H), ([] : List MemPlace)) := by
    apply List.ext_getElem?
    intro i
    by_cases hi : i < 32
    · rw [(hf1 i hi).2.2, List.getElem?_map, List.getElem?_range hi, Option.map_some, ofB_byte f 32 (fun i hi => (hf1 i hi).1) i hi]
    · rw [List.getElem?_eq_none (by omega), List.getElem?_eq_none (by simpa using hi)]
  refine ⟨ofB f 32, ?_, by rw [hcs, bv_def], ?_, ?_⟩
  · exact Nat.lt_of_lt_of_le (ofB_lt f 32 fun i hi => (hf1 i hi).1) (by decide)
  · rw [(Prod.mk.inj ex).1, hxs, dB, List.map_map]
    rfl
  · rw [(Prod.mk.inj ex).2, hxs]
    simp
end
/-- The end of a call that turned nothing of the caller's memory. -/
theorem post_of_below {H : Type} {enc : TypeId × Value → H} {P : Program} {f : Func} {s : ChangeSpec} {apart fresh handsOn again : Bool} {W W' : World} {args : Array Value} {v : Value} {ds gs : List (DataW H)} {before pa pv : List MemPlace}
    (hW : DataW.Whole enc P f.params.toList s.vars apart W args.toList ds gs before) (hb : Below W.heap.size W W')
    (hres : ∀ (b : Nat) (sp : Nat → Bool) (hd : Bool), DataW.TrodAll enc P W' b sp hd f.resultTypes.toList (v.resultList f.resultTypes.size) (s.fn H (ds ++ gs)).results [])
    (hargs : ∀ sp : Nat → Bool, (∀ p ∈ before, sp p.block = true) → DataW.TrodAll enc P W' 0 sp true f.params.toList args.toList (s.fn H (ds ++ gs)).args pa)
    (hvars : ∀ sp : Nat → Bool, (∀ p ∈ before, sp p.block = true) → DataW.TrodVars enc P W' sp s.vars (s.fn H (ds ++ gs)).vars pv)
    (hps : before = pa ++ pv)
    (hok : ∀ (j : Nat) (t : TypeId) (r : Value), f.resultTypes[j]? = some t → (v.resultList f.resultTypes.size)[j]? = some r → Value.okWide P W' .any 0 t r) :
    s.post enc P f apart fresh handsOn again W args v W' := by
  have hold : ∀ p ∈ before, (fun b => decide (b < W.heap.size)) p.block = true := fun p hp => by simpa using hW.lt p hp
  have hlt := hW.lt
  refine ⟨ds, gs, before, [], pa, pv, hW, hres _ _ _, hargs _ hold, hvars _ hold, World.keptBut_mono (fun p hp => ⟨hp, ?_⟩) (hb.frame (· ∈ before)), fun _ => ?_⟩
  · rw [hps, List.mem_append] at hp
    exact Or.inr hp
  · obtain ⟨_, _, _, _, _, hz, hn⟩ := hW
    refine ⟨hok, _, _, ([] ++ pa) ++ pv, ⟨[] ++ pa, pv, trodAll_append (hargs _ (fun _ _ => rfl)) (hres _ _ _), hvars _ (fun _ _ => rfl), rfl, ?_, ?_⟩, ?_⟩
    · intro b off hp
      have hp' : MemPlace.cell b off ∈ before := by rw [hps]; simpa using hp
      have hl : b < W.heap.size := hlt _ hp'
      rw [hb.frozen (p := ⟨b, off, none⟩) hl]
      exact hz b off hp'
    · intro ha
      have := hn ha
      rw [hps] at this
      simpa using this
    · intro p hp _
      rw [hps]
      simpa using hp
end Go.Proofs.Ytnbdeajjfhlmnaa
