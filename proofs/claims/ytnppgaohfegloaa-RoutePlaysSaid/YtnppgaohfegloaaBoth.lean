/-
  Each call, of the table and of the document's list at once: what both answer, and that they stay alike.
-/
import Derived.Test.YtnppgaohfegloaaRDrop
namespace Go.Proofs.Ytnppgaohfegloaa
open Go.RowKit

/-- what a call leaves of a thing that it may write -/
def ExtOut (A : Ext) (r : Nat) (f : Nat → Prop) (w w' : World) : Prop := ∃ f', A.holds r f' (hp w') ∧ (∀ k, f' k → f k ∨ w.heap.size ≤ k) ∧ Keeps { W := w, M := f } w'
theorem ExtOut.same {A : Ext} {r : Nat} {f : Nat → Prop} {w w' : World} (hA : A.holds r f (hp w)) (hb : Below w.heap.size w w') : ExtOut A r f w w' :=
  ⟨f, A.loc hA (fun n hn => by
    obtain ⟨o, ho⟩ := A.live hA hn
    exact hb.block n (lt_of_hp ho)), fun k hk => .inl hk, hb.os, hb.tape, hb.output, hb.size, fun k hk _ => hb.block k hk⟩
/-- a call that answers val and makes A to A' -/
def Makes (fn : FuncId) (vs : List Value) (val : Value) (A A' : Ext) : Prop := ∀ (r : Nat) (f : Nat → Prop) (w : World), A.holds r f (hp w) → Calls Try.prog fn (.pointer (some ⟨r, 0, none⟩) :: vs).toArray w fun e w' => e = .returned val ∧ ExtOut A' r f w w'
section
variable {F : Fr} {ops : Array Oper} {S : St} {o : Oper}
theorem o_makes (hw : want ops S o = some true) {fn : FuncId} {args : Array Operand} {ts : Array TypeId} (ho : o.op = .call { callee := .value (.func fn), args := args, argTypes := ts }) (hf : goFn Try.prog fn = true) {i : Nat} {A A' : Ext} {vs : List Value} {val : Value}
    (hC : Makes fn vs val A A') (ha : args.toList.mapM S.av = some (.p i 0 :: vs.map AV.v)) (hb : S.blk i = some (.ext A)) : OpOK Try.prog F ops o S { val := .v val, wr := some (i, .ext A'), rd := [i] } :=
  ok_call hw ho hf _ ha fun ρ w h0 _ => by
    have e : ((AV.p i 0 :: vs.map AV.v).map (·.to ρ)).toArray = (.pointer (some ⟨ρ i, 0, none⟩) :: vs).toArray := by
      simp only [List.map_cons, List.map_map, AV.to_p]
      congr 2
      clear hC ha
      induction vs with
      | nil => rfl
      | cons v vs ih =>
        rw [List.map_cons, ih]
        rfl
    rw [e]
    exact (hC _ _ w (h0 i (by simp) _ hb)).mono fun en w' h => by
      obtain ⟨rfl, f', h2, h3, h4⟩ := h
      exact ⟨_, ⟨0, f', fun _ => False⟩, rfl, rfl, h4.os, h4.tape, h4.output, h4.size, fun b hb hk => h4.block b hb (fun hT => hk _ rfl hT), fun y hy => by cases hy; exact ⟨h2, h3⟩, (fun _ h => by cases h), (fun _ _ _ h => by cases h)⟩
end
theorem put_both {M : Tab} {L : List RowR} (hr : Rel M L) (v : Bool) (n : Nat) (b o : Int) (hn : n < 2 ^ 128) :
    ∃ (z : Int) (M' : Tab) (L' : List RowR), Rel M' L' ∧ Makes 10 [.agg (pfc v n b), .int .i64 o] (.int .i64 z) (tabA M) (tabA M') ∧ Makes 20 [.agg (pfc v n b), .int .i64 o] (.int .i64 z) (refA L) (refA L') := by
  cases hp' : isPfx v n b with
  | false =>
    exact ⟨25, M, L, hr, fun r f w hA => (put_no v n b o hp' w).mono fun e w' h => ⟨h.1, .same hA h.2⟩, fun r f w hA => (rput_bad v n b o hp' w).mono fun e w' h => ⟨h.1, .same hA h.2⟩⟩
  | true =>
    obtain ⟨c, rfl, _, _⟩ := isPfx_nat hp'
    obtain ⟨k, hk⟩ := spot_ex L (qR v n c o)
    have hlim := hr.lim
    have hcnt := hr.cnt
    by_cases hs : ∃ y, L[k]? = some y ∧ sameK y (qR v n c o)
    · obtain ⟨y, hy, hsk⟩ := hs
      have hown : M.own v c (topD n c) = some y.o := hr.same hy hsk
      refine ⟨0, _, _, hr.put_same (o := o) hn hp' hy hsk, fun r f w hA => (put_yes v n c o hn hp' w hA).mono fun e w' h => ?_, fun r f w hA => (rput_yes hlim hr.wfr v n c o hn hp' hk w hA).mono fun e w' h => ?_⟩
      · rcases h with ⟨h1, _⟩ | ⟨_, h2, h3⟩
        · rw [h1.1] at hown; cases hown
        · exact ⟨h2, h3⟩
      · rcases h with ⟨h1, _, h3⟩ | ⟨_, h2, _⟩ | ⟨_, h2, _⟩
        · exact ⟨h1, h3⟩
        · exact absurd hsk (h2 y hy)
        · exact absurd hsk (h2 y hy)
    · have hno : ∀ y, L[k]? = some y → ¬ sameK y (qR v n c o) := fun y hy h => hs ⟨y, hy, h⟩
      have hown := hr.other hk hno
      by_cases hfull : 64 ≤ L.length
      · have hf : M.full v n c := ⟨hown, by omega⟩
        refine ⟨81, M, L, hr, fun r f w hA => (put_yes v n c o hn hp' w hA).mono fun e w' h => ?_, fun r f w hA => (rput_yes hlim hr.wfr v n c o hn hp' hk w hA).mono fun e w' h => ?_⟩
        · rcases h with ⟨_, h2, h3⟩ | ⟨h1, _⟩
          · exact ⟨h2, .same hA h3⟩
          · exact absurd hf h1
        · rcases h with ⟨_, h2, _⟩ | ⟨h1, _, _, h2⟩ | ⟨_, _, h2, _⟩
          · exact absurd h2 hs
          · exact ⟨h1, .same hA h2⟩
          · omega
      · have hf : ¬ M.full v n c := fun h => by have := h.2; omega
        refine ⟨0, _, _, hr.put_new (o := o) hn hp' hk hno (by omega), fun r f w hA => (put_yes v n c o hn hp' w hA).mono fun e w' h => ?_, fun r f w hA => (rput_yes hlim hr.wfr v n c o hn hp' hk w hA).mono fun e w' h => ?_⟩
        · rcases h with ⟨h1, _⟩ | ⟨_, h2, h3⟩
          · exact absurd h1 hf
          · exact ⟨h2, h3⟩
        · rcases h with ⟨_, h2, _⟩ | ⟨_, _, h2, _⟩ | ⟨h1, _, _, h2⟩
          · exact absurd h2 hs
          · omega
          · exact ⟨h1, h2⟩
theorem first_ex (L : List RowR) (q : RowR) : ∃ k, k ≤ L.length ∧ (∀ j y, j < k → L[j]? = some y → ¬ sameK y q) ∧ ∀ y, L[k]? = some y → sameK y q := by
  induction L with
  | nil => exact ⟨0, Nat.le_refl _, (fun j y h => by omega), fun y h => by simp at h⟩
  | cons a L ih =>
    by_cases h : sameK a q
    · exact ⟨0, Nat.zero_le _, (fun j y hj => by omega), fun y hy => by
        have : a = y := by simpa using hy
        rw [← this]
        exact h⟩
    · obtain ⟨k, h1, h2, h3⟩ := ih
      refine ⟨k + 1, by simpa using h1, fun j y hj hy => ?_, fun y hy => h3 y (by simpa using hy)⟩
      cases j with
      | zero =>
        have : a = y := by simpa using hy
        rw [← this]
        exact h
      | succ j => exact h2 j y (by omega) (by simpa using hy)
theorem drop_both {M : Tab} {L : List RowR} (hr : Rel M L) (v : Bool) (n : Nat) (b : Int) (hn : n < 2 ^ 128) :
    ∃ (x : Int) (c : Bool) (M' : Tab) (L' : List RowR), Rel M' L' ∧ Makes 15 [.agg (pfc v n b)] (.tuple #[.int .i64 x, .bool c]) (tabA M) (tabA M') ∧ Makes 18 [.agg (pfc v n b)] (.tuple #[.int .i64 x, .bool c]) (refA L) (refA L') := by
  cases hp' : isPfx v n b with
  | false =>
    exact ⟨0, false, M, L, hr, fun r f w hA => (drop_bad v n b hp' w).mono fun e w' h => ⟨h.1, .same hA h.2⟩, fun r f w hA => (rdrop_bad v n b hp' w hA).mono fun e w' h => ⟨h.1, .same hA h.2⟩⟩
  | true =>
    obtain ⟨d, rfl, _, _⟩ := isPfx_nat hp'
    obtain ⟨k, hkl, hbe, hat⟩ := first_ex L (qR v n d 0)
    have hlim := hr.lim
    have hcnt := hr.cnt
    by_cases hk : k = L.length
    · have hown : M.own v d (topD n d) = none := hr.nobody fun y hy => by
        obtain ⟨j, hj⟩ := List.getElem?_of_mem hy
        exact hbe j y (by have := (List.getElem?_eq_some_iff.1 hj).1; omega) hj
      refine ⟨0, false, M, L, hr, fun r f w hA => (drop_none v n d hn hp' hown w hA).mono fun e w' h => ⟨h.1, .same hA h.2⟩, fun r f w hA => (rdrop_yes hlim hr.wfr v n d hn hp' hkl hbe hat w hA).mono fun e w' h => ?_⟩
      rcases h with ⟨_, h1, h2⟩ | ⟨y, hy, _⟩
      · exact ⟨h1, .same hA h2⟩
      · have := (List.getElem?_eq_some_iff.1 hy).1
        omega
    · obtain ⟨y, hy⟩ : ∃ y, L[k]? = some y := ⟨_, List.getElem?_eq_getElem (by omega)⟩
      have hsk := hat y hy
      have hown : M.own v d (topD n d) = some y.o := hr.same (o := 0) hy hsk
      refine ⟨y.o, true, _, _, hr.drop hy hsk, fun r f w hA => (drop_yes v n d hn hp' hown (by omega) (by omega) w hA).mono fun e w' h => ⟨h.1, h.2⟩, fun r f w hA => (rdrop_yes hlim hr.wfr v n d hn hp' hkl hbe hat w hA).mono fun e w' h => ?_⟩
      rcases h with ⟨h1, _⟩ | ⟨y', hy', h1, h2⟩
      · omega
      · rw [hy] at hy'
        cases hy'
        exact ⟨h1, h2⟩
/-- the prefix that both make whole -/
def whR (v : Bool) (n : Nat) (b : Int) : Bool × Nat × Int := if isPfx v n b then (v, topN n b.toNat, b) else (false, 0, 0)
theorem whR_lt (v : Bool) {n : Nat} (b : Int) (hn : n < 2 ^ 128) : (whR v n b).2.1 < 2 ^ 128 := by
  unfold whR
  split
  · exact topN_lt hn
  · exact Nat.pow_pos (by decide)
theorem whole_any (v : Bool) (n : Nat) (b : Int) (hn : n < 2 ^ 128) (w : World) : Calls Try.prog 14 #[.agg (pfc v n b)] w fun e w' => e = .returned (.agg (acC (whR v n b))) ∧ Below w.heap.size w w' := by
  unfold whR
  cases hp' : isPfx v n b with
  | false => exact whole_no v n b hp' w
  | true =>
    obtain ⟨d, rfl, _, _⟩ := isPfx_nat hp'
    exact whole_ok v n d hn hp' w
theorem rwhole_any (v : Bool) (n : Nat) (b : Int) (hn : n < 2 ^ 128) (w : World) : Calls Try.prog 22 #[.agg (pfc v n b)] w fun e w' => e = .returned (.agg (acC (whR v n b))) ∧ Below w.heap.size w w' := by
  unfold whR
  cases hp' : isPfx v n b with
  | false => exact rwhole_no v n b hp' w
  | true =>
    obtain ⟨d, rfl, _, _⟩ := isPfx_nat hp'
    exact rwhole_yes v n d hn hp' w
theorem acP_lt (v : Bool) {n : Nat} (hn : n < 2 ^ 128) (a : Option (Nat × Int)) : (acP v n a).2.1 < 2 ^ 128 := by
  cases a with
  | none => exact Nat.pow_pos (by decide)
  | some x => exact topN_lt hn
theorem rfind_both {M : Tab} {L : List RowR} (hr : Rel M L) {rt : Nat} {f : Nat → Prop} (v : Bool) (n : Nat) (hn : n < 2 ^ 128) (w : World) (hA : (refA L).holds rt f (hp w)) :
    Calls Try.prog 19 #[.pointer (some ⟨rt, 0, none⟩), .agg (adc v n)] w fun e w' => e = .returned (fdRes v n (fdA M v n)) ∧ Below w.heap.size w w' := by
  rw [hr.find hn]
  exact rfind_any (Nat.le_trans hr.lim (by decide)) hr.wfr v n w hA

/-! ### the document's table, its slice named -/
def refV (v : Value) (L : List RowR) : Ext where
  holds := fun r f H => H r = some (cobj #[v] 51) ∧ ((v = .slice none 0 0 ∧ L = [] ∧ f = fun n => n = r) ∨
    ∃ g cap cur, v = .slice (some ⟨g, 0, none⟩) L.length cap ∧ g ≠ r ∧ H g = some (cobj cur 76) ∧ L.length ≤ cap ∧ cap ≤ maxLen ∧ cur.size = cap * 19 ∧ cur.toList.take (L.length * 19) = catR L ∧ f = fun n => n = r ∨ n = g)
  loc := by
    rintro r f H H' ⟨h1, h2⟩ hh
    rcases h2 with ⟨rfl, rfl, rfl⟩ | ⟨g, cap, cur, rfl, h3, h4, h5, h6, h7, h8, rfl⟩
    · exact ⟨by rw [hh r rfl]; exact h1, .inl ⟨rfl, rfl, rfl⟩⟩
    · exact ⟨by rw [hh r (.inl rfl)]; exact h1, .inr ⟨g, cap, cur, rfl, h3, by rw [hh g (.inr rfl)]; exact h4, h5, h6, h7, h8, rfl⟩⟩
  live := by
    rintro r f H n ⟨h1, h2⟩ hn
    rcases h2 with ⟨rfl, rfl, rfl⟩ | ⟨g, cap, cur, rfl, h3, h4, h5, h6, h7, h8, rfl⟩
    · exact ⟨_, by rw [hn]; exact h1⟩
    · rcases hn with rfl | rfl
      · exact ⟨_, h1⟩
      · exact ⟨_, h4⟩
theorem refV_of {L : List RowR} {r : Nat} {f : Nat → Prop} {H : Hp} (h : (refA L).holds r f H) : ∃ ad cap, (refV (.slice ad L.length cap) L).holds r f H := by
  obtain ⟨v, h1, h2⟩ := h
  rcases h2 with ⟨rfl, rfl, rfl⟩ | ⟨g, cap, cur, rfl, h3⟩
  · exact ⟨none, 0, h1, .inl ⟨rfl, rfl, rfl⟩⟩
  · exact ⟨_, cap, h1, .inr ⟨g, cap, cur, rfl, h3⟩⟩
theorem refA_of {v : Value} {L : List RowR} {r : Nat} {f : Nat → Prop} {H : Hp} (h : (refV v L).holds r f H) : (refA L).holds r f H := ⟨v, h.1, h.2⟩
theorem refV_row {v : Value} {L : List RowR} {r : Nat} {f : Nat → Prop} {w : World} (h : (refV v L).holds r f (hp w)) : w.ownsRow 0 76 19 v L.length (catR L) := by
  rcases h.2 with ⟨rfl, rfl, rfl⟩ | ⟨g, cap, cur, rfl, h3, h4, h5, h6, h7, h8, rfl⟩
  · exact World.ownsRow_nil _ _ _ _
  · exact ⟨len_catR L, .inr ⟨g, cap, cur, rfl, Nat.zero_le _, h4, h5, h6, h7, h8⟩⟩
/-- what All hands back: a box with a slice of rows -/
def collA (L : List RowR) : Ext where
  holds := fun r f H => ∃ v, H r = some (cobj #[v] 68) ∧ ((v = .slice none 0 0 ∧ L = [] ∧ f = fun n => n = r) ∨
    ∃ g cap cur, v = .slice (some ⟨g, 0, none⟩) L.length cap ∧ H g = some (cobj cur 73) ∧ L.length ≤ cap ∧ cap ≤ maxLen ∧ cur.size = cap * 19 ∧ cur.toList.take (L.length * 19) = catR L ∧ f = fun n => n = r ∨ n = g)
  loc := by
    rintro r f H H' ⟨v, h1, h2⟩ hh
    rcases h2 with ⟨rfl, rfl, rfl⟩ | ⟨g, cap, cur, rfl, h4, h5, h6, h7, h8, rfl⟩
    · exact ⟨_, by rw [hh r rfl]; exact h1, .inl ⟨rfl, rfl, rfl⟩⟩
    · exact ⟨_, by rw [hh r (.inl rfl)]; exact h1, .inr ⟨g, cap, cur, rfl, by rw [hh g (.inr rfl)]; exact h4, h5, h6, h7, h8, rfl⟩⟩
  live := by
    rintro r f H n ⟨v, h1, h2⟩ hn
    rcases h2 with ⟨rfl, rfl, rfl⟩ | ⟨g, cap, cur, rfl, h4, h5, h6, h7, h8, rfl⟩
    · exact ⟨_, by rw [hn]; exact h1⟩
    · rcases hn with rfl | rfl
      · exact ⟨_, h1⟩
      · exact ⟨_, h4⟩
theorem coll_shut {w0 w : World} {bl : Nat} {L : List RowR} (h : Coll w0 bl L w) : ∃ f, (collA L).holds bl f (hp w) ∧ ∀ k, f k → w0.heap.size ≤ k := by
  obtain ⟨_, hbl, v, hv, hrow⟩ := h
  rcases hrow.2 with ⟨rfl, h0⟩ | ⟨g, cap, cur, rfl, hb, hg, rest⟩
  · exact ⟨fun n => n = bl, ⟨_, hv, .inl ⟨rfl, List.eq_nil_of_length_eq_zero h0, rfl⟩⟩, fun k hk => by rw [show k = bl from hk]; exact hbl⟩
  · exact ⟨fun n => n = bl ∨ n = g, ⟨_, hv, .inr ⟨g, cap, cur, rfl, hg, rest.1, rest.2.1, rest.2.2.1, rest.2.2.2, rfl⟩⟩, fun k hk => by rcases hk with rfl | rfl <;> assumption⟩
theorem coll_open {w : World} {bl : Nat} {f : Nat → Prop} {L : List RowR} (h : (collA L).holds bl f (hp w)) : ∃ v, w.heap[bl]? = some (cobj #[v] 68) ∧ w.ownsRow 0 73 19 v L.length (catR L) := by
  obtain ⟨v, hv, h⟩ := h
  rcases h with ⟨rfl, rfl, rfl⟩ | ⟨g, cap, cur, rfl, h4, h5, h6, h7, h8, rfl⟩
  · exact ⟨_, hv, World.ownsRow_nil _ _ _ _⟩
  · exact ⟨_, hv, len_catR L, .inr ⟨g, cap, cur, rfl, Nat.zero_le _, h4, h5, h6, h7, h8⟩⟩
/-- a range over no rows -/
theorem seq_none (l q : Nat) (w : World) {f : Nat → Prop} (hq : (collA []).holds q f (hp w)) : Calls Try.prog 32 (#[.func (.yield l) #[] #[]] ++ #[.pointer (some ⟨q, 0, none⟩)]) w fun e w' => (∃ v, e = .returned v) ∧ Below w.heap.size w w' := by
  obtain ⟨v, hv, hrow⟩ := coll_open hq
  refine (seq_iter (L := []) (by decide) w hv hrow l (fun _ W => Below w.heap.size w W) (fun _ _ => False) w (Kept.refl _ _) (fun _ => abide_below w (Nat.le_refl _)) (fun _ _ _ h _ => h) (fun pre x W _ hpx _ => ?_) (Below.refl _ _)).mono fun e w' h => ⟨h.1, ?_⟩
  · have := hpx.length_le
    simp at this
  · rcases h.2 with h | ⟨_, _, h⟩
    · exact h
    · exact h.elim
section
variable {F : Fr} {ops : Array Oper} {S : St} {o : Oper}
theorem o_ref49 (hw : want ops S o = some true) {x : Operand} (ho : o.op = .load 49 x) {i : Nat} {v : Value} {L : List RowR} (hx : S.av x = some (.p i 0)) (hb : S.blk i = some (.ext (refV v L))) : OpOK Try.prog F ops o S { val := .v v, rd := [i] } :=
  ok_value hw fun ρ a w h1 h2 _ => by
    have e1 := h1 x (by simp [ho, Op.operands]) _ hx
    have e2 : w.cell? ⟨ρ i, 0, none⟩ = some v := hb_of (h2 i (by simp) _ hb).1
    simp [execOp, ho, e1, Instr.loadAt, Instr.sureAddr, loadVar, run_isAgg_false one49, e2]
theorem o_all6 (j : Nat) (hw : want ops S o = some true) {args : Array Operand} {ts : Array TypeId} (ho : o.op = .call { callee := .value (.func 17), args := args, argTypes := ts }) {i : Nat} {M : Tab} {L : List RowR} (ha : args.toList.mapM S.av = some [.p i 0]) (hb : S.blk i = some (.ext (tabA M))) (hr : Rel M L) :
    OpOK Try.prog F ops o S { val := fnA 32 j, new := some (j, .ext (collA L)), rd := [i] } :=
  ok_call hw ho fn17 _ ha fun ρ w h0 _ => by
    obtain ⟨ids, T, hI, hf, hT⟩ := h0 i (by simp) _ hb
    have hall := hr.all hI
    exact (all_any hI w hT (by rw [hall]; exact Nat.le_trans hr.lim (by decide))).mono fun en w' h => by
      obtain ⟨bl, rfl, hC⟩ := h
      rw [hall] at hC
      obtain ⟨f, hA, hfr⟩ := coll_shut hC
      have h3 := hC.1
      exact ⟨_, ⟨bl, fun _ => False, f⟩, rfl, by simp [fnA, AV.to, upd], h3.os, h3.tape, h3.output, h3.size, fun b hb _ => h3.block b hb, (fun _ h => by cases h), (fun y hy => by cases hy; exact ⟨hA, hfr⟩), (fun _ _ h => by cases h)⟩
theorem run_eqfn6 (x y : Operand) (ad : Addr) (w : World) : (do eqGuard .eql 53 x y (.func (.func 32) #[] #[.pointer (some ad)]) .nilFunc; binOp .eql 53 (.func (.func 32) #[] #[.pointer (some ad)]) .nilFunc : Sem Value).run Try.prog w = .ok (.bool false) w := by kernel_rfl
theorem o_fnnil6 (hw : want ops S o = some true) {t' : TypeId} {x y : Operand} (ho : o.op = .binOp .eql 53 x y t') {i : Nat} (hx : S.av x = some (fnA 32 i)) (hy : S.av y = some (.v .nilFunc)) : OpOK Try.prog F ops o S { val := .v (.bool false) } :=
  ok_value hw fun ρ a w h1 _ _ => by
    have e1 : a.eval x = .func (.func 32) #[] #[.pointer (some ⟨ρ i, 0, none⟩)] := h1 x (by simp [ho, Op.operands]) _ hx
    have e2 : a.eval y = .nilFunc := h1 y (by simp [ho, Op.operands]) _ hy
    have := run_eqfn6 x y ⟨ρ i, 0, none⟩ w
    simp only [execOp, ho, e1, e2] at this ⊢
    rw [Sem.run_bind, this]
    rfl
theorem opc_pfc6 (k o : Int) (v : Bool) (n : Nat) (b : Int) : ∀ j, j < 18 → (opc k o v n b)[2 + j]? = (pfc v n b)[j]?
  | 0, _ => rfl | 1, _ => rfl | 2, _ => rfl | 3, _ => rfl | 4, _ => rfl | 5, _ => rfl | 6, _ => rfl | 7, _ => rfl | 8, _ => rfl | 9, _ => rfl | 10, _ => rfl | 11, _ => rfl | 12, _ => rfl | 13, _ => rfl | 14, _ => rfl | 15, _ => rfl | 16, _ => rfl | 17, _ => rfl
  | j + 18, h => by omega
theorem opc_adc6 (k o : Int) (v : Bool) (n : Nat) (b : Int) : ∀ j, j < 17 → (opc k o v n b)[2 + j]? = (adc v n)[j]?
  | 0, _ => rfl | 1, _ => rfl | 2, _ => rfl | 3, _ => rfl | 4, _ => rfl | 5, _ => rfl | 6, _ => rfl | 7, _ => rfl | 8, _ => rfl | 9, _ => rfl | 10, _ => rfl | 11, _ => rfl | 12, _ => rfl | 13, _ => rfl | 14, _ => rfl | 15, _ => rfl | 16, _ => rfl
  | j + 17, h => by omega
theorem o_l31c (hw : want ops S o = some true) {x : Operand} (ho : o.op = .load 31 x) {i ty : Nat} {p : OpR} (hx : S.av x = some (.p i 2)) (hb : S.blk i = some (.mk p.c ty)) : OpOK Try.prog F ops o S { val := .v (.agg (pfc p.v p.n p.b)), rd := [i] } :=
  ok_load_part hw ho hx hb agg31 sz31 rfl (opc_pfc6 p.k p.o p.v p.n p.b)
theorem o_l24c (hw : want ops S o = some true) {x : Operand} (ho : o.op = .load 24 x) {i ty : Nat} {p : OpR} (hx : S.av x = some (.p i 2)) (hb : S.blk i = some (.mk p.c ty)) : OpOK Try.prog F ops o S { val := .v (.agg (adc p.v p.n)), rd := [i] } :=
  ok_load_part hw ho hx hb agg24 sz24 rfl (opc_adc6 p.k p.o p.v p.n p.b)
end
/-- one thing said otherwise, as it lies -/
theorem Rep.recastAt {N : Nat} {sl : List (Nat × AV)} {i : Nat} {b b' : Blk} {mm : List (Nat × Blk)} {ρ : Pl} {F : Fr} {a : Act} {w : World} (h : Rep N ⟨sl, (i, b) :: mm⟩ ρ F a w) (hb : b'.is (ρ i) (ρ.foot i) (hp w)) : Rep N ⟨sl, (i, b') :: mm⟩ ρ F a w := by
  have hblk : ∀ k e, St.blk ⟨sl, (i, b') :: mm⟩ k = some e → (k = i ∧ e = b' ∧ St.blk ⟨sl, (i, b) :: mm⟩ k = some b) ∨ (k ≠ i ∧ St.blk ⟨sl, (i, b) :: mm⟩ k = some e) := by
    intro k e hk
    by_cases hki : k = i
    · subst hki
      have h1 : St.blk ⟨sl, (k, b') :: mm⟩ k = some b' := by simp [St.blk]
      have h2 : St.blk ⟨sl, (k, b) :: mm⟩ k = some b := by simp [St.blk]
      rw [h1] at hk
      cases hk
      exact .inl ⟨rfl, rfl, h2⟩
    · have hf : (k == i) = false := by simpa using hki
      have h1 : St.blk ⟨sl, (i, b') :: mm⟩ k = St.blk ⟨sl, (i, b) :: mm⟩ k := by simp [St.blk, List.lookup_cons, hf]
      exact .inr ⟨hki, by rw [← h1]; exact hk⟩
  have hex : ∀ k e, St.blk ⟨sl, (i, b') :: mm⟩ k = some e → ∃ e', St.blk ⟨sl, (i, b) :: mm⟩ k = some e' := fun k e hk => by
    rcases hblk k e hk with ⟨_, _, h2⟩ | ⟨_, h2⟩ <;> exact ⟨_, h2⟩
  refine ⟨h.defers, h.size, fun k av hk => h.slots k av hk, fun k e hk => ?_, fun k e hk n hn => ?_, fun k l e e' n hk hl hn hn' => ?_, fun k av j hk hj => ?_, h.keeps⟩
  · rcases hblk k e hk with ⟨rfl, rfl, h2⟩ | ⟨_, h2⟩
    · exact hb
    · exact h.mem k e h2
  · obtain ⟨e', h2⟩ := hex k e hk
    exact h.own k e' h2 n hn
  · obtain ⟨x, h2⟩ := hex k e hk
    obtain ⟨y, h3⟩ := hex l e' hl
    exact h.inj k l x y n h2 h3 hn hn'
  · obtain ⟨e', h2⟩ := h.live k av j hk hj
    by_cases hki : j = i
    · subst hki
      exact ⟨b', by simp [St.blk]⟩
    · have hf : (j == i) = false := by simpa using hki
      exact ⟨e', by simpa [St.blk, List.lookup_cons, hf] using h2⟩
end Go.Proofs.Ytnppgaohfegloaa
