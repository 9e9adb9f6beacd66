/-
  Slices of calls and of addresses as they come into a law.
-/
import Derived.Test.YtnppgaohfegloaaRules2
import Derived.Carry
namespace Go.Proofs.Ytnppgaohfegloaa
open Go.ChangeShapes Go.WideShapes Go.ChangeAt Go.RowKit

theorem cells3 : Try.prog.cellsOf 3 = 1 := by kernel_rfl
theorem cells4 : Try.prog.cellsOf 4 = 1 := by kernel_rfl
theorem cells5 : Try.prog.cellsOf 5 = 1 := by kernel_rfl
theorem cells22 : Try.prog.cellsOf 22 = 16 := by kernel_rfl
theorem cells40 : Try.prog.cellsOf 40 = 20 := by kernel_rfl
theorem st40 : Try.prog.underlying 40 = some (.struct (Try.prog.fieldsOf 40)) := by kernel_rfl
theorem fd24_0 : ((Try.prog.fieldsOf 24)[0]?).map (fun f => (f.type, f.offset)) = some (4, 0) := by kernel_rfl
theorem fd24_1 : ((Try.prog.fieldsOf 24)[1]?).map (fun f => (f.type, f.offset)) = some (22, 1) := by kernel_rfl
theorem fd31_0 : ((Try.prog.fieldsOf 31)[0]?).map (fun f => (f.type, f.offset)) = some (24, 0) := by kernel_rfl
theorem fd31_1 : ((Try.prog.fieldsOf 31)[1]?).map (fun f => (f.type, f.offset)) = some (3, 17) := by kernel_rfl
theorem fd40_0 : ((Try.prog.fieldsOf 40)[0]?).map (fun f => (f.type, f.offset)) = some (3, 0) := by kernel_rfl
theorem fd40_1 : ((Try.prog.fieldsOf 40)[1]?).map (fun f => (f.type, f.offset)) = some (3, 1) := by kernel_rfl
theorem fd40_2 : ((Try.prog.fieldsOf 40)[2]?).map (fun f => (f.type, f.offset)) = some (31, 2) := by kernel_rfl
section
variable {H : Type} {enc : TypeId × Value → H} {w : World} {base : Nat} {spare : Nat → Bool} {held : Bool}
theorem trod_fld {t i t' o k : Nat} (hst : Try.prog.underlying t = some (.struct (Try.prog.fieldsOf t))) (hf : ((Try.prog.fieldsOf t)[i]?).map (fun f => (f.type, f.offset)) = some (t', o)) (hk : Try.prog.cellsOf t' = k) {fuel : Nat} {cs : List Value} {x : DataW H × List MemPlace}
    (h : DataW.trod enc Try.prog w base spare held fuel t cs = some x) : ∃ n y, DataW.trod enc Try.prog w base spare held n t' ((cs.drop o).take k) = some y := by
  obtain ⟨xs, n, _, _, _, hl, hel⟩ := DataW.trod_struct hst h
  cases hg : (Try.prog.fieldsOf t)[i]? with
  | none => rw [hg] at hf; cases hf
  | some f =>
    rw [hg] at hf
    simp only [Option.map_some, Option.some.injEq, Prod.mk.injEq] at hf
    obtain ⟨rfl, rfl⟩ := hf
    have h1 := hel i f hg
    rw [hk] at h1
    have hlt : i < xs.length := by rw [hl]; exact (Array.getElem?_eq_some_iff.1 hg).1
    rw [List.getElem?_eq_getElem hlt] at h1
    exact ⟨n, _, h1⟩
theorem part_get {cs : List Value} {o k i : Nat} (hi : i < k) : ((cs.drop o).take k)[i]? = cs[o + i]? := by
  rw [List.getElem?_take_of_lt hi, List.getElem?_drop]
theorem one_bool {fuel : Nat} {cs : List Value} {o : Nat} {x : DataW H × List MemPlace} (h : DataW.trod enc Try.prog w base spare held fuel 4 ((cs.drop o).take 1) = some x) : ∃ b, cs[o]? = some (.bool b) := by
  obtain ⟨b, e, _⟩ := DataW.trod_bool Try.underlying4 h
  refine ⟨b, ?_⟩
  have := part_get (cs := cs) (o := o) (k := 1) (i := 0) (by decide)
  rw [e] at this
  simpa using this.symm
theorem one_int {fuel : Nat} {cs : List Value} {o : Nat} {x : DataW H × List MemPlace} (h : DataW.trod enc Try.prog w base spare held fuel 3 ((cs.drop o).take 1) = some x) : ∃ z, cs[o]? = some (.int .i64 z) := by
  obtain ⟨z, e, _, _⟩ := DataW.trod_int Try.underlying3 h
  refine ⟨z, ?_⟩
  have := part_get (cs := cs) (o := o) (k := 1) (i := 0) (by decide)
  rw [e] at this
  simpa using this.symm
theorem sixteen {fuel : Nat} {cs : List Value} {x : DataW H × List MemPlace} (h : DataW.trod enc Try.prog w base spare held fuel 22 cs = some x) : ∃ n, n < 2 ^ 128 ∧ ∀ i, i < 16 → cs[i]? = some (byteV n (15 - i)) := by
  obtain ⟨xs, m, _, ex, hcl, hl, hel⟩ := DataW.trod_array Try.underlying22 h
  rw [cells22] at hcl
  have each : ∀ i, i < 16 → ∃ z : Nat, z < 256 ∧ cs[i]? = some (.int .u8 z) := by
    intro i hi
    have hE := hel i hi
    rw [cells5, Nat.mul_one, List.getElem?_eq_getElem (by omega)] at hE
    obtain ⟨z, e1, e2, hw⟩ := DataW.trod_int Try.underlying5 hE
    have hb := bounds_u8 hw
    refine ⟨z.toNat, by omega, ?_⟩
    have h0 : ((cs.drop i).take 1)[0]? = some (.int .u8 z) := by rw [e1]; rfl
    have h1 : cs[i]? = some (.int .u8 z) := by simpa using h0
    rw [h1]; congr 2; omega
  let f : Nat → Nat := fun i => match cs[i]? with | some (.int .u8 z) => z.toNat | _ => 0
  have hf1 : ∀ i, i < 16 → f i < 256 ∧ cs[i]? = some (.int .u8 (f i)) := by
    intro i hi
    obtain ⟨z, h1, h2⟩ := each i hi
    have : f i = z := by simp only [f, h2, Int.toNat_natCast]
    rw [this]
    exact ⟨h1, h2⟩
  obtain ⟨n, hn, hnb⟩ := num_of f fun i hi => (hf1 i hi).1
  exact ⟨n, hn, fun i hi => by rw [(hf1 i hi).2, hnb i hi]⟩
theorem open_addrC {fuel : Nat} {cs : List Value} {x : DataW H × List MemPlace} (h : DataW.trod enc Try.prog w base spare held fuel 24 cs = some x) : ∃ y : Bool × Nat, y.2 < 2 ^ 128 ∧ ∀ i, i < 17 → cs[i]? = (adc y.1 y.2)[i]? := by
  obtain ⟨_, _, h0⟩ := trod_fld st24 fd24_0 cells4 h
  obtain ⟨_, _, h1⟩ := trod_fld st24 fd24_1 cells22 h
  obtain ⟨b, hb⟩ := one_bool h0
  obtain ⟨n, hn, hc⟩ := sixteen h1
  refine ⟨(b, n), hn, fun i hi => ?_⟩
  cases i with
  | zero => rw [hb]; rfl
  | succ i =>
    have h2 := hc i (by omega)
    rw [part_get (by omega)] at h2
    rw [show i + 1 = 1 + i by omega, h2, adc_get _ _ _ (by omega)]
theorem open_pfxC {fuel : Nat} {cs : List Value} {x : DataW H × List MemPlace} (h : DataW.trod enc Try.prog w base spare held fuel 31 cs = some x) : ∃ v n b, n < 2 ^ 128 ∧ ∀ i, i < 18 → cs[i]? = (pfc v n b)[i]? := by
  obtain ⟨_, _, h0⟩ := trod_fld st31 fd31_0 cells24 h
  obtain ⟨_, _, h1⟩ := trod_fld st31 fd31_1 cells3 h
  obtain ⟨⟨v, n⟩, hn, hc⟩ := open_addrC h0
  obtain ⟨z, hz⟩ := one_int h1
  refine ⟨v, n, z, hn, fun i hi => ?_⟩
  rcases Nat.lt_or_ge i 17 with h17 | h17
  · have h2 := hc i h17
    rw [part_get h17, Nat.zero_add] at h2
    rw [h2, ← pfc_adc v n z i h17, Nat.zero_add]
  · obtain rfl : i = 17 := by omega
    rw [hz]
    rfl
theorem open_pfx {r : Reach} {b0 : Nat} {v : Value} {d : DataW H} {ps : List MemPlace} (hval : Value.okWide Try.prog w r b0 31 v) (hd : DataW.Trod enc Try.prog w base spare held 31 v d ps) : ∃ b n z, n < 2 ^ 128 ∧ v = .agg (pfc b n z) := by
  obtain ⟨cs, rfl, hsz, _⟩ : ∃ cs, v = .agg cs ∧ cs.size = Try.prog.cellsOf 31 ∧ Row.okWide Try.prog w r b0 31 cs := by
    simpa [Value.okWide, Try.underlying31] using hval
  rw [cells31] at hsz
  obtain ⟨fuel, hf⟩ := hd
  obtain ⟨b, n, z, hn, hc⟩ := open_pfxC hf
  refine ⟨b, n, z, hn, ?_⟩
  congr 1
  apply Array.ext_getElem?
  intro i
  rcases Nat.lt_or_ge i 18 with hi | hi
  · have := hc i hi
    rw [← this]
    exact (Array.getElem?_toList ..).symm
  · rw [Array.getElem?_eq_none (by omega), Array.getElem?_eq_none (by rw [size_pfc]; omega)]
theorem open_opC {fuel : Nat} {cs : List Value} {x : DataW H × List MemPlace} (h : DataW.trod enc Try.prog w base spare held fuel 40 cs = some x) : ∃ p : OpR, p.n < 2 ^ 128 ∧ ∀ i, i < 20 → cs[i]? = p.c[i]? := by
  obtain ⟨_, _, h0⟩ := trod_fld st40 fd40_0 cells3 h
  obtain ⟨_, _, h1⟩ := trod_fld st40 fd40_1 cells3 h
  obtain ⟨_, _, h2⟩ := trod_fld st40 fd40_2 cells31 h
  obtain ⟨k, hk⟩ := one_int h0
  obtain ⟨o, ho⟩ := one_int h1
  obtain ⟨v, n, b, hn, hc⟩ := open_pfxC h2
  refine ⟨⟨k, o, v, n, b⟩, hn, fun i hi => ?_⟩
  match i, hi with
  | 0, _ => rw [hk]; rfl
  | 1, _ => rw [ho]; rfl
  | i + 2, hi =>
    have h3 := hc i (by omega)
    rw [part_get (by omega)] at h3
    rw [show i + 2 = 2 + i by omega, h3, ← opc_pfc k o v n b i (by omega)]
    rfl
theorem open_slice {α : Type} {r : Reach} {b0 t e sz : Nat} (ut : Try.prog.underlying t = some (.slice e)) (hsz : Try.prog.cellsOf e = sz) (R : α → Nat → Option Value) (G : α → Prop)
    (hel : ∀ {fuel : Nat} {cs : List Value} {x : DataW H × List MemPlace}, DataW.trod enc Try.prog w base spare held fuel e cs = some x → ∃ p : α, G p ∧ ∀ i, i < sz → cs[i]? = R p i) (h0 : 0 < sz) (hR : ∀ p i, i < sz → ∃ v, R p i = some v)
    {v : Value} {d : DataW H} {ps : List MemPlace} (hval : Value.okWide Try.prog w r b0 t v) (hd : DataW.Trod enc Try.prog w base spare held t v d ps) :
    ∃ (l : List α) (ad : Option Addr) (cap g off : Nat), v = .slice ad l.length cap ∧ l.length < 9223372036854775808 ∧ ∀ (j : Nat) (p : α), l[j]? = some p → G p ∧ ad = some ⟨g, off, none⟩ ∧ ∀ i, i < sz → w.cell? ⟨g, off + j * sz + i, none⟩ = R p i := by
  obtain ⟨fuel, hf⟩ := hd
  have hcell : v.cells.toList = [v] := by
    have := hval
    cases v <;> first | rfl | (simp [Value.okWide, ut, Cell.okWide, Cell.ok] at this)
  rw [hcell] at hf
  rcases DataW.trod_slice ut hf with ⟨h1, h2⟩ | ⟨a, len, cap, elems, rest, n, _, h1, h2, _, hle, hmx, hl, hcells, _, _⟩
  · obtain rfl : v = .slice none 0 0 := by simpa using h1
    exact ⟨[], none, 0, 0, 0, rfl, Nat.zero_lt_succ _, fun j p hj => by simp at hj⟩
  · obtain rfl : v = .slice (some a) len cap := by simpa using h1
    have each : ∀ i, i < len → ∃ p : α, G p ∧ ∀ k, k < sz → w.cell? ((a.add (i * sz)).add k) = R p k := by
      intro i hi
      have h3 := hcells i hi
      rw [hsz, List.getElem?_eq_getElem (by omega)] at h3
      obtain ⟨cs, hc1, hc2⟩ := Option.bind_eq_some_iff.1 h3
      obtain ⟨p, hp, hcs⟩ := hel hc2
      refine ⟨p, hp, fun k hk => ?_⟩
      unfold World.cells? at hc1
      split at hc1
      · have := mapM_some_get hc1 k k (by simp [hk])
        rw [this, hcs k hk]
      · cases hc1
    have key : ∀ n, n ≤ len → ∃ l : List α, l.length = n ∧ ∀ (j : Nat) (p : α), l[j]? = some p → G p ∧ ∀ k, k < sz → w.cell? ((a.add (j * sz)).add k) = R p k := by
      intro n
      induction n with
      | zero => exact fun _ => ⟨[], rfl, fun j p hj => by simp at hj⟩
      | succ n ih =>
        intro hn
        obtain ⟨l, hl1, hl2⟩ := ih (by omega)
        obtain ⟨q, hq, hc⟩ := each n (by omega)
        refine ⟨l ++ [q], by simp [hl1], fun j p hj => ?_⟩
        rcases Nat.lt_or_ge j n with hjn | hjn
        · rw [List.getElem?_append_left (by omega)] at hj
          exact hl2 j p hj
        · rw [List.getElem?_append_right (by omega)] at hj
          obtain ⟨hlt, he⟩ := List.getElem?_eq_some_iff.1 hj
          obtain rfl : j = n := by simp at hlt; omega
          simp at he
          subst he
          exact ⟨hq, hc⟩
    obtain ⟨l, hl1, hl2⟩ := key len (Nat.le_refl _)
    obtain ⟨g, off, sp⟩ := a
    refine ⟨l, some ⟨g, off, sp⟩, cap, g, off, by rw [hl1], ?_, fun j p hj => ?_⟩
    · have : maxLen ≤ 9223372036854775807 := by decide
      omega
    · obtain ⟨hG, hc⟩ := hl2 j p hj
      cases sp with
      | none =>
        refine ⟨hG, rfl, fun k hk => ?_⟩
        have := hc k hk
        rw [add_none, add_none] at this
        exact this
      | some s =>
        exfalso
        obtain ⟨p0, hp0⟩ : ∃ p0, l[0]? = some p0 := ⟨_, List.getElem?_eq_getElem (by have := (List.getElem?_eq_some_iff.1 hj).1; omega)⟩
        have h5 := (hl2 0 p0 hp0).2 0 h0
        obtain ⟨v0, hv0⟩ := hR p0 0 h0
        have ha : (((⟨g, off, some s⟩ : Addr).add (0 * sz)).add 0) = ⟨g, off, some s⟩ := by rw [Nat.zero_mul]; rfl
        rw [ha, hv0] at h5
        unfold World.cell? at h5
        split at h5
        · cases h5
        · cases h5
theorem has_get {cs : Array Value} {n i : Nat} (h : cs.size = n) (hi : i < n) : ∃ v, cs[i]? = some v := ⟨_, Array.getElem?_eq_getElem (by omega)⟩
theorem open_ops {r : Reach} {b0 : Nat} {v : Value} {d : DataW H} {ps : List MemPlace} (hval : Value.okWide Try.prog w r b0 36 v) (hd : DataW.Trod enc Try.prog w base spare held 36 v d ps) :
    ∃ (l : List OpR) (ad : Option Addr) (cap g off : Nat), v = .slice ad l.length cap ∧ l.length < 9223372036854775808 ∧ ∀ (j : Nat) (p : OpR), l[j]? = some p → p.n < 2 ^ 128 ∧ ad = some ⟨g, off, none⟩ ∧ ∀ i, i < 20 → w.cell? ⟨g, off + j * 20 + i, none⟩ = p.c[i]? :=
  open_slice u36 cells40 (fun (p : OpR) i => p.c[i]?) (fun (p : OpR) => p.n < 2 ^ 128) (fun h => open_opC h) (by decide) (fun (p : OpR) i hi => has_get (by rw [OpR.c, size_opc]) hi) hval hd
theorem open_addrs {r : Reach} {b0 : Nat} {v : Value} {d : DataW H} {ps : List MemPlace} (hval : Value.okWide Try.prog w r b0 37 v) (hd : DataW.Trod enc Try.prog w base spare held 37 v d ps) :
    ∃ (l : List (Bool × Nat)) (ad : Option Addr) (cap g off : Nat), v = .slice ad l.length cap ∧ l.length < 9223372036854775808 ∧ ∀ (j : Nat) (x : Bool × Nat), l[j]? = some x → x.2 < 2 ^ 128 ∧ ad = some ⟨g, off, none⟩ ∧ ∀ i, i < 17 → w.cell? ⟨g, off + j * 17 + i, none⟩ = (adc x.1 x.2)[i]? :=
  open_slice u37 cells24 (fun (x : Bool × Nat) i => (adc x.1 x.2)[i]?) (fun (x : Bool × Nat) => x.2 < 2 ^ 128) (fun h => open_addrC h) (by decide) (fun (x : Bool × Nat) i hi => has_get (size_adc _ _) hi) hval hd
end
end Go.Proofs.Ytnppgaohfegloaa
