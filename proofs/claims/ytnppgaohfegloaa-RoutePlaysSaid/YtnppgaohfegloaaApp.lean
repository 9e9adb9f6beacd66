/-
  A slice of calls that is lengthened by one.
-/
import Derived.Test.YtnppgaohfegloaaRows2
namespace Go.Proofs.Ytnppgaohfegloaa
open Go.RowKit

theorem slotsIn_mem {S : St} : ∀ {l : List (Nat × AV)}, slotsIn S l → ∀ p ∈ l, S.slot p.1 = some p.2
  | q :: l, h, p, hp => by
    rcases List.mem_cons.1 hp with rfl | hp
    · exact h.1
    · exact slotsIn_mem h.2 p hp
theorem Rep.longer {N : Nat} {S : St} {ρ : Pl} {F : Fr} {a : Act} {w : World} (h : Rep N S ρ F a w) {m m' : List OpR} {c c' d b' : Nat} {v' : Value} {w' : World} (hb : S.blk 98 = some (.ext (listA m c))) (hd : d < N)
    (sl : List (Nat × AV)) (mm : List (Nat × Blk)) (hs : slotsIn S sl) (hsd : (sl.all fun q => q.1 != d && q.2.id? != some 98) = true) (hm : memIn S mm) (hne : (mm.all fun q => q.1 != 98) = true)
    (hl : liveB ⟨(d, lsl m' c') :: sl, (98, .ext (listA m' c')) :: mm⟩ = true)
    (hv : v' = .slice (some ⟨b', 0, none⟩) m'.length c') (hm' : m' ≠ [])
    (o1 : w'.os = w.os) (o2 : w'.tape = w.tape) (o3 : w'.output = w.output) (o4 : w.heap.size ≤ w'.heap.size) (o5 : ∀ k, k < w.heap.size → ¬ ρ.foot 98 k → w'.heap[k]? = w.heap[k]?)
    (o6 : (listA m' c').holds b' (fun n => n = b') (hp w')) (o7 : ρ.foot 98 b' ∨ w.heap.size ≤ b') :
    Rep N ⟨(d, lsl m' c') :: sl, (98, .ext (listA m' c')) :: mm⟩ ⟨fun i => if i = 98 then b' else ρ.num i, fun i => if i = 98 then fun n => n = b' else ρ.foot i⟩ F (a.put (some d) v') w' := by
  have hblk : ∀ i b, St.blk ⟨(d, lsl m' c') :: sl, (98, .ext (listA m' c')) :: mm⟩ i = some b → (i = 98 ∧ b = .ext (listA m' c')) ∨ (i ≠ 98 ∧ S.blk i = some b) := by
    intro i b hi
    rcases List.mem_cons.1 (lookup_mem hi) with h1 | h1
    · cases h1; exact .inl ⟨rfl, rfl⟩
    · have h2 := List.all_eq_true.1 hne _ h1
      exact .inr ⟨by simpa using h2, memIn_mem hm _ h1⟩
  have hlt : ∀ i b n, S.blk i = some b → ρ.foot i n → n < w.heap.size := fun i b n hi hn => by
    obtain ⟨o, ho⟩ := Blk.is_live (h.mem i b hi) hn
    exact lt_of_hp ho
  refine ⟨h.defers, by simp [Act.put, h.size], fun j av hj => ?_, fun i b hi => ?_, fun i b hi n hn => ?_, fun i j b e n hi hj hn hn' => ?_, fun j av i hj hi => ?_, ?_⟩
  · rw [get_put]
    rcases List.mem_cons.1 (lookup_mem hj) with h1 | h1
    · cases h1
      rw [if_pos ⟨rfl, by rw [h.size]; exact hd⟩, hv, lsl_some hm']
      rfl
    · have h2 := List.all_eq_true.1 hsd _ h1
      simp only [Bool.and_eq_true, bne_iff_ne, ne_eq] at h2
      rw [if_neg (fun t => h2.1 (by have := t.1; cases this; rfl)), h.slots j av (slotsIn_mem hs _ h1)]
      refine congrArg some (AV.to_congr fun i hi => ?_)
      have : i ≠ 98 := fun e => h2.2 (by rw [hi, e])
      show ρ.num i = if i = 98 then b' else ρ.num i
      rw [if_neg this]
  · rcases hblk i b hi with ⟨rfl, rfl⟩ | ⟨h1, h2⟩
    · simp only [if_true]
      exact o6
    · simp only [if_neg h1]
      refine Blk.is_loc (h.mem i b h2) fun n hn => ?_
      exact o5 n (hlt _ _ _ h2 hn) fun hf => h1 (h.inj _ _ _ _ _ h2 hb hn hf)
  · rcases hblk i b hi with ⟨rfl, rfl⟩ | ⟨h1, h2⟩
    · simp only [if_true] at hn
      subst hn
      rcases o7 with h3 | h3
      · exact h.own 98 _ hb _ h3
      · exact .inl (Nat.le_trans h.keeps.size h3)
    · simp only [if_neg h1] at hn
      exact h.own i b h2 n hn
  · have hx : ∀ i b, i ≠ 98 → S.blk i = some b → ρ.foot i b' → False := fun i b h1 h2 h3 => by
      rcases o7 with h4 | h4
      · exact h1 (h.inj _ _ _ _ _ h2 hb h3 h4)
      · have := hlt _ _ _ h2 h3; omega
    rcases hblk i b hi with ⟨rfl, rfl⟩ | ⟨h1, h2⟩ <;> rcases hblk j e hj with ⟨rfl, rfl⟩ | ⟨h3, h4⟩
    · rfl
    · simp only [if_true] at hn
      simp only [if_neg h3] at hn'
      subst hn
      exact (hx j e h3 h4 hn').elim
    · simp only [if_neg h1] at hn
      simp only [if_true] at hn'
      subst hn'
      exact (hx i b h1 h2 hn).elim
    · simp only [if_neg h1] at hn
      simp only [if_neg h3] at hn'
      exact h.inj i j b e n h2 h4 hn hn'
  · have := List.all_eq_true.1 hl _ (lookup_mem hj)
    simp only [hi] at this
    exact Option.isSome_iff_exists.1 this
  · refine ⟨o1.trans h.keeps.os, o2.trans h.keeps.tape, o3.trans h.keeps.output, Nat.le_trans h.keeps.size o4, fun k hk hM => ?_⟩
    rw [← h.keeps.block k hk hM]
    refine o5 k (by have := h.keeps.size; omega) fun hf => ?_
    rcases h.own _ _ hb _ hf with h1 | h1
    · omega
    · exact hM h1
theorem listA_mk {m : List OpR} (hm : m ≠ []) {c r : Nat} {H : Hp} (xs : List Value) (h1 : m.length ≤ c) (h2 : xs.length = (c - m.length) * 20) (h3 : H r = some (cobj (catO m ++ xs).toArray 40)) : (listA m c).holds r (fun n => n = r) H := by
  show if m = [] then (fun n => n = r) = (fun _ => False) else ∃ xs : List Value, m.length ≤ c ∧ xs.length = (c - m.length) * 20 ∧ H r = some (cobj (catO m ++ xs).toArray 40) ∧ (fun n => n = r) = fun n => n = r
  rw [if_neg hm]
  exact ⟨xs, h1, h2, h3, rfl⟩
theorem zeros_len (z : Value) (k : Nat) : (Builtin.zeroCells z.cells k).toList.length = k * z.cells.size := by
  rw [Array.length_toList]
  simp [Builtin.zeroCells]
theorem next_small {need cap : Nat} (h : need ≤ 200) (hc : cap < need) : Builtin.nextslicecap need cap * 1000 ≤ 281474976710656 := by
  have := nextslicecap_le hc
  omega
theorem wpl_lapp {F : Fr} {ops : Array Oper} {S : St} {o : Oper} {rest : List Oper} {N : Nat} {ρ : Pl} {a : Act} {w : World} {Q : Exit → Act → World → Prop} (h : Rep N S ρ F a w) (hg : o.guard = none) {x y d j : Nat} {ts : Array TypeId}
    (ho : o.op = .call { callee := .builtin .append, args := #[.tmp x, .tmp y], argTypes := ts }) (hts : ts = #[36, 36]) (hdst : o.dst = some d) (hd : d < N) {m : List OpR} {c : Nat} {p : OpR}
    (hx : S.slot x = some (lsl m c)) (hb : S.blk 98 = some (.ext (listA m c))) (hy : S.slot y = some (.s j 0 1 1)) (hj : S.blk j = some (.mk p.c 40)) (hlen : m.length < 100)
    (sl : List (Nat × AV)) (mm : List (Nat × Blk)) (hs : slotsIn S sl) (hsd : (sl.all fun q => q.1 != d && q.2.id? != some 98) = true) (hm : memIn S mm) (hne : (mm.all fun q => q.1 != 98) = true)
    (hl : ∀ c', liveB ⟨(d, lsl (m ++ [p]) c') :: sl, (98, .ext (listA (m ++ [p]) c')) :: mm⟩ = true)
    (hR : ∀ c' ρ' a' w', Rep N ⟨(d, lsl (m ++ [p]) c') :: sl, (98, .ext (listA (m ++ [p]) c')) :: mm⟩ ρ' F a' w' → wpList Try.prog ops Q rest a' w') : wpList Try.prog ops Q (o :: rest) a w := by
  subst hts
  refine wpList_plain hg fun K hK => ?_
  have e1 : a.eval (.tmp x) = (lsl m c).to ρ := h.eval_tmp hx
  have e2 : a.eval (.tmp y) = .slice (some ⟨ρ j, 0, none⟩) 1 1 := h.eval_tmp hy
  have e3 := h.mem 98 _ hb
  have e4 := (h.mem j _ hj).1
  obtain ⟨ie, hie, hsz, hz, hby⟩ := info40
  have hpc : p.c.toList.length = 1 * ie.size := by rw [hsz, Array.length_toList, OpR.c, size_opc]
  have hnews : ∀ k v, p.c.toList[k]? = some v → w.cell? ((⟨ρ j, 0, none⟩ : Addr).add k) = some v := fun k v hk => by
    rw [add_none, Nat.zero_add, cell_of_obj e4]
    simpa using hk
  have hne' : m ++ [p] ≠ [] := by simp
  have hcat : catO (m ++ [p]) = catO m ++ p.c.toList := by rw [catO_append]; simp [catO]
  have hl1 : (m ++ [p]).length = m.length + 1 := by simp
  unfold Oper.wp
  by_cases hm0 : m = []
  · subst hm0
    rw [lsl_nil] at e1
    have hrun := run_append_nil (P := Try.prog) w 36 o.type 40 ie _ u36 hie hz ⟨ρ j, 0, none⟩ 1 1 p.c.toList hpc hnews (by decide) (by decide) (by omega)
    have hge := grownCap_ge w 1 0 40
    generalize grownCap w 1 0 40 = c' at hrun hge
    have hr : (execOp a.eval o).run Try.prog w = .ok (.value (.slice (some ⟨w.heap.size, 0, none⟩) 1 c')) (w.drew.alloc (cobj (p.c.toList.toArray ++ Builtin.zeroCells (Value.agg (opc 0 0 false 0 0)).cells (c' - 1)) 40)) := by
      simp [execOp, ho, resolve, invoke, builtin, e1, e2, hrun, cobj]
    rw [hr, Oper.upon_value, hdst]
    refine hK _ _ (hR c' _ _ _ (h.longer hb hd sl mm hs hsd hm hne (hl c') rfl hne' rfl rfl rfl (by simp) (fun k hk _ => heap_alloc_lt w.drew _ hk) ?_ (.inr (Nat.le_refl _))))
    refine listA_mk hne' (Builtin.zeroCells (Value.agg (opc 0 0 false 0 0)).cells (c' - 1)).toList hge ?_ ?_
    · rw [zeros_len]; rfl
    · have := heap_alloc_same w.drew (cobj (p.c.toList.toArray ++ Builtin.zeroCells (Value.agg (opc 0 0 false 0 0)).cells (c' - 1)) 40)
      refine Eq.trans this ?_
      congr 2
      rw [hcat]
      apply Array.ext'
      simp [catO]
  · rw [lsl_some hm0] at e1
    obtain ⟨xs, hmc, hxs, hH, hf⟩ := listA_some hm0 e3
    by_cases hr : m.length + 1 ≤ c
    · have h1c : ∀ v ∈ p.c.toList, v.oneCell' = true := fun v hv => one_catO [p] v (by rw [catO, catO, List.append_nil]; exact hv)
      have hst := run_storeCells_at (P := Try.prog) (ρ 98) (m.length * 20) 40 p.c.toList 0 (catO m ++ xs).toArray w hH (by simp [catO_length, hxs, OpR.c, size_opc]; omega) h1c
      have hcs : ((catO m ++ xs).toArray.toList.take (m.length * 20 + 0) ++ p.c.toList ++ (catO m ++ xs).toArray.toList.drop (m.length * 20 + 0 + p.c.toList.length)).toArray = (catO (m ++ [p]) ++ xs.drop 20).toArray := by
        have h20 : p.c.toList.length = 20 := by rw [Array.length_toList, OpR.c, size_opc]
        simp only [Nat.add_zero, h20]
        rw [← catO_length, List.take_left, ← List.drop_drop, List.drop_left, hcat]
      rw [hcs] at hst
      have hfirst := run_firstCells_some (P := Try.prog) w 20 1 ⟨ρ j, 0, none⟩ 1 1 p.c.toList (by rw [hpc, hsz]) hnews
      have hr2 : (execOp a.eval o).run Try.prog w = .ok (.value (.slice (some ⟨ρ 98, 0, none⟩) (m.length + 1) c)) (w.setRow (ρ 98) (catO (m ++ [p]) ++ xs.drop 20).toArray) := by
        simp [execOp, ho, resolve, invoke, builtin, e1, e2, Builtin.append_, run_underlying u36, run_sizeOf' sz40, Builtin.lenOf, hr, hfirst, add_none, hst]
      rw [hr2, Oper.upon_value, hdst]
      refine hK _ _ (hR c _ _ _ (h.longer hb hd sl mm hs hsd hm hne (hl c) (b' := ρ 98) (by rw [hl1]) hne' rfl rfl rfl (by simp) (fun k hk hnf => setRow_other w _ k _ (fun e => hnf (by rw [hf]; exact e))) ?_ (.inl (by rw [hf]))))
      refine listA_mk hne' (xs.drop 20) (by omega) (by rw [List.length_drop, hxs, hl1, Nat.sub_mul, Nat.sub_mul, Nat.add_mul]; omega) (setRow_heap w _ _ _ _ _ hH)
    · have hrun := run_append_grow (P := Try.prog) w 36 o.type 40 ie _ u36 hie hz ⟨ρ 98, 0, none⟩ m.length c (catO m) (by rw [catO_length, hsz])
        (fun k u hk => by
          have hlt : k < (catO m).length := (List.getElem?_eq_some_iff.1 hk).1
          rw [add_none, Nat.zero_add, cell_of_obj hH, List.getElem?_toArray, List.getElem?_append_left hlt]
          exact hk)
        ⟨ρ j, 0, none⟩ 1 1 p.c.toList hpc hnews (by omega) (by omega) (Nat.le_trans (Nat.mul_le_mul_left _ hby) (next_small (by omega) (by omega)))
      have hge := grownCap_ge w (m.length + 1) c 40
      generalize grownCap w (m.length + 1) c 40 = c' at hrun hge
      have hr2 : (execOp a.eval o).run Try.prog w = .ok (.value (.slice (some ⟨w.heap.size, 0, none⟩) (m.length + 1) c')) (w.drew.alloc (cobj ((catO m).toArray ++ p.c.toList.toArray ++ Builtin.zeroCells (Value.agg (opc 0 0 false 0 0)).cells (c' - (m.length + 1))) 40)) := by
        simp [execOp, ho, resolve, invoke, builtin, e1, e2, hrun, cobj]
      rw [hr2, Oper.upon_value, hdst]
      refine hK _ _ (hR c' _ _ _ (h.longer hb hd sl mm hs hsd hm hne (hl c') (b' := w.heap.size) (by rw [hl1]) hne' rfl rfl rfl (by simp) (fun k hk _ => heap_alloc_lt w.drew _ hk) ?_ (.inr (Nat.le_refl _))))
      refine listA_mk hne' (Builtin.zeroCells (Value.agg (opc 0 0 false 0 0)).cells (c' - (m.length + 1))).toList (by rw [hl1]; exact hge) ?_ ?_
      · rw [zeros_len, hl1]; rfl
      · refine Eq.trans (heap_alloc_same w.drew _) ?_
        congr 2
        rw [hcat]
        apply Array.ext'
        simp
end Go.Proofs.Ytnppgaohfegloaa
