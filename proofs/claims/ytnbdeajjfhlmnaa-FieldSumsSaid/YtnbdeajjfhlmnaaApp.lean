/-
  Slices of arrays of 32 bytes that are lengthened.
-/
import Derived.Test.YtnbdeajjfhlmnaaRefSum
namespace Go.Proofs.Ytnbdeajjfhlmnaa
open Go.RowKit

theorem catl_append (m n : List Nat) : catl (m ++ n) = catl m ++ catl n := by
  induction m with
  | nil => rfl
  | cons a m ih => simp only [List.cons_append, catl, ih, List.append_assoc]
theorem catl_take (m n : List Nat) : (catl (m ++ n)).take (m.length * 32) = catl m := by
  rw [catl_append, List.take_left' (catl_length m)]
theorem catl_drop (m n : List Nat) : (catl (m ++ n)).drop (m.length * 32) = catl n := by
  rw [catl_append, List.drop_left' (catl_length m)]
theorem catl_drop' (k : Nat) : ∀ (l : List Nat), (catl l).drop (k * 32) = catl (l.drop k) := by
  induction k with
  | zero => intro l; simp
  | succ k ih =>
    intro l
    cases l with
    | nil => simp [catl]
    | cons a l =>
      rw [List.drop_succ_cons, ← ih l, catl, Nat.succ_mul, Nat.add_comm, ← List.drop_drop, List.drop_left' (by simp)]
theorem one_catl (l : List Nat) : ∀ v ∈ catl l, v.oneCell' = true := by
  induction l with
  | nil => intro v hv; cases hv
  | cons a l ih =>
    intro v hv
    rcases List.mem_append.1 hv with h | h
    · exact (Array.all_eq_true_iff_forall_mem.1 (one_bvc a)) v (by simpa using h)
    · exact ih v h
theorem zero_cells (z : Nat) : Builtin.zeroCells (bv 0).cells z = catc (List.replicate z 0) := by
  apply Array.ext_getElem?
  intro j
  have hs : (catc (List.replicate z 0)).size = z * 32 := by simp [catc, catl_length]
  by_cases hj : j < z * 32
  · have e : j = j / 32 * 32 + j % 32 := by omega
    rw [e, catc_get _ (j / 32) (j % 32) (by simp; omega) (Nat.mod_lt _ (by decide)), ← e]
    have hg : (List.replicate z 0).getD (j / 32) 0 = 0 := by
      simp [List.getD, List.getElem?_replicate]
      split <;> rfl
    rw [hg]
    have hb : (bvc 0)[j % 32]? = some (byteV 0 (j % 32)) := get_bvc_lt 0 _ (Nat.mod_lt _ (by decide))
    simp [Builtin.zeroCells, hj]
    rw [getElem!_def, hb]
  · rw [Array.getElem?_eq_none (by simp [Builtin.zeroCells]; omega), Array.getElem?_eq_none (by rw [hs]; omega)]
theorem Sl.cells {w : World} {ad : Option Addr} {len cap : Nat} {n : List Nat} (h : Sl w (.slice ad len cap) n) : len = n.length ∧ (n ≠ [] → ∃ g off, ad = some ⟨g, off, none⟩ ∧ ∀ (j : Nat) (u : Value), (catl n)[j]? = some u → w.cell? ((⟨g, off, none⟩ : Addr).add j) = some u) := by
  obtain ⟨ad', cap', h1, h2, h3⟩ := h
  cases h1
  refine ⟨rfl, fun hne => ?_⟩
  have hpos : 0 < n.length := List.length_pos_iff.2 hne
  obtain ⟨g, off, hg, _⟩ := h3 0 hpos
  refine ⟨g, off, hg, fun j u hj => ?_⟩
  have hlt : j < n.length * 32 := by rw [← catl_length]; exact (List.getElem?_eq_some_iff.1 hj).1
  have e : j = j / 32 * 32 + j % 32 := by omega
  obtain ⟨g2, off2, hg2, hc⟩ := h3 (j / 32) (by omega)
  rw [hg] at hg2
  cases hg2
  have := hc (j % 32) (Nat.mod_lt _ (by decide))
  rw [e, catl_get n (j / 32) (j % 32) (by omega) (Nat.mod_lt _ (by decide))] at hj
  rw [add_none, ← hj, ← this]
  congr 2
  omega
theorem info24 : ∃ ie, Try.prog.info? 24 = some ie ∧ ie.size = 32 ∧ ie.zero = some (bv 0) ∧ ie.bytes = 32 := by
  have h1 := zero24
  have h2 := sz24
  have h3 : (Try.prog.info? 24).map (·.bytes) = some 32 := by kernel_rfl
  unfold tZero at h1
  unfold tSize at h2
  cases hi : Try.prog.info? 24 with
  | none => simp [hi] at h2
  | some ie =>
    simp only [hi, Option.map_some, Option.some.injEq, Option.bind_some] at h1 h2 h3
    exact ⟨ie, rfl, h2, h1, h3⟩
theorem next_small {need cap : Nat} (h : need ≤ 4398046511104) (hc : cap < need) : Builtin.nextslicecap need cap * 32 ≤ 281474976710656 := growslice_fits hc (by omega)

/-- an append of arrays: in the same block, or in a new one -/
theorem wpl_app24 {F : Fr} {ops : Array Oper} {S : St} {o : Oper} {rest : List Oper} {N : Nat} {ρ : Nat → Nat} {a : Act} {w : World} {Q : Exit → Act → World → Prop} (n0 : Nat) (h : Rep N S ρ F a w) (hg : o.guard = none)
    {x y : Tmp} {ts : Array TypeId} (ho : o.op = .call { callee := .builtin .append, args := #[.tmp x, .tmp y], argTypes := ts }) (hts : ts = #[22, 22]) {i c : Nat} {m ex n : List Nat} {vy : AV}
    (hx : S.slot x = some (.s i 0 m.length c)) (hi : S.blk i = some ⟨catc (m ++ ex), 24⟩) (hc : c = (m ++ ex).length) (hy : S.slot y = some vy) (hsl : Sl w (vy.to ρ) n) (hs : m.length + n.length ≤ 4398046511104)
    (h1 : dstB N o = true) (h2 : (S.blk n0).isNone = true)
    (hroom : ∀ ρ' a' w', m.length + n.length ≤ c → Rep N (S.step o.dst { val := .s i 0 (m.length + n.length) c, wr := some (i, ⟨catc (m ++ n ++ ex.drop n.length), 24⟩) }) ρ' F a' w' → wpList Try.prog ops Q rest a' w')
    (hgrow : ∀ z ρ' a' w', Rep N (S.step o.dst { val := .s n0 0 (m.length + n.length) (m.length + n.length + z), new := some (n0, ⟨catc (m ++ n ++ List.replicate z 0), 24⟩) }) ρ' F a' w' → wpList Try.prog ops Q rest a' w') : wpList Try.prog ops Q (o :: rest) a w := by
  subst hts
  refine wpList_plain hg fun K hK => ?_
  have e1 : a.eval (.tmp x) = .slice (some ⟨ρ i, 0, none⟩) m.length c := h.eval_tmp hx
  have e2 : a.eval (.tmp y) = vy.to ρ := h.eval_tmp hy
  have e3 := h.mem i _ hi
  generalize vy.to ρ = v at hsl e2
  obtain ⟨ad, cap, hv, _, _⟩ := id hsl
  subst hv
  obtain ⟨_, hcells⟩ := hsl.cells
  obtain ⟨ie, hie, hsz, hz, hb⟩ := info24
  have hfirst : ∀ w1 : World, (∀ (j : Nat) (u : Value) g off, ad = some ⟨g, off, none⟩ → (catl n)[j]? = some u → w1.cell? ((⟨g, off, none⟩ : Addr).add j) = some u) →
      (Builtin.firstCells 32 n.length (.slice ad n.length cap)).run Try.prog w1 = .ok (catl n).toArray w1 := by
    intro w1 hw1
    by_cases hn : n = []
    · subst hn
      cases ad with
      | none => rfl
      | some b => exact run_firstCells_some (P := Try.prog) w1 32 0 b 0 cap [] rfl (by simp)
    · obtain ⟨g, off, had, _⟩ := hcells hn
      subst had
      exact run_firstCells_some (P := Try.prog) w1 32 n.length ⟨g, off, none⟩ n.length cap (catl n) (catl_length n) (fun j u hj => hw1 j u g off rfl hj)
  have hcellw : ∀ (j : Nat) (u : Value) g off, ad = some ⟨g, off, none⟩ → (catl n)[j]? = some u → w.cell? ((⟨g, off, none⟩ : Addr).add j) = some u := by
    intro j u g off had hj
    have hn : n ≠ [] := fun hn => by subst hn; simp [catl] at hj
    obtain ⟨g2, off2, had2, hc2⟩ := hcells hn
    rw [had] at had2
    cases had2
    exact hc2 j u hj
  by_cases hr : m.length + n.length ≤ c
  · have hexl : n.length ≤ ex.length := by rw [hc, List.length_append] at hr; omega
    have hst := run_storeCells_at (P := Try.prog) (ρ i) (m.length * 32) 24 (catl n) 0 (catc (m ++ ex)) w e3 (by simp [catc, catl_length]; omega) (one_catl n)
    have hcs : ((catc (m ++ ex)).toList.take (m.length * 32 + 0) ++ catl n ++ (catc (m ++ ex)).toList.drop (m.length * 32 + 0 + (catl n).length)).toArray = catc (m ++ n ++ ex.drop n.length) := by
      simp only [catc, Nat.add_zero, catl_length]
      rw [catl_take, ← List.drop_drop, catl_drop, catl_drop', catl_append, catl_append]
    rw [hcs] at hst
    have hr2 : (execOp a.eval o).run Try.prog w = .ok (.value (.slice (some ⟨ρ i, 0, none⟩) (m.length + n.length) c)) (w.setRow (ρ i) (catc (m ++ n ++ ex.drop n.length))) := by
      simp [execOp, ho, resolve, invoke, builtin, e1, e2, Builtin.append_, run_underlying u22, run_sizeOf' sz24, Builtin.lenOf, hr, hfirst w hcellw, add_none, hst]
    unfold Oper.wp
    rw [hr2, Oper.upon_value]
    refine hK _ _ (hroom (upd ρ { val := .s i 0 (m.length + n.length) c, wr := some (i, ⟨catc (m ++ n ++ ex.drop n.length), 24⟩) } 0) _ _ hr (h.stepB h1 rfl (by simp [wroteB, hi]) (by simp [idB, AV.s, hi]) ?_))
    exact ⟨rfl, rfl, rfl, rfl, by simp, fun k _ hk => setRow_other w _ k _ (hk _ rfl), fun z hz => by cases hz; exact setRow_heap w _ _ _ _ _ e3, fun z hz => by cases hz⟩
  · have hn : n ≠ [] := fun hn => by subst hn; rw [hc, List.length_append] at hr; simp at hr
    obtain ⟨g, off, had, hcc⟩ := hcells hn
    subst had
    have hml : m.length ≤ c := by rw [hc, List.length_append]; omega
    have hrun := run_append_grow (P := Try.prog) w 22 o.type 24 ie (bv 0) u22 hie hz ⟨ρ i, 0, none⟩ m.length c (catl m) (by rw [catl_length, hsz])
      (fun k u hk => by
        have hlt : k < m.length * 32 := by rw [← catl_length]; exact (List.getElem?_eq_some_iff.1 hk).1
        rw [add_none, cell_of_obj e3, Nat.zero_add]
        simp only [catc, List.getElem?_toArray]
        rw [catl_append, List.getElem?_append_left (by rw [catl_length]; exact hlt)]
        exact hk)
      ⟨g, off, none⟩ n.length cap (catl n) (by rw [catl_length, hsz]) (fun j u hj => hcc j u hj) (by omega) (by omega) (by rw [hb]; exact next_small hs (by omega))
    have hge := grownCap_ge w (m.length + n.length) c 24
    obtain ⟨z, hz'⟩ : ∃ z, grownCap w (m.length + n.length) c 24 = m.length + n.length + z := ⟨grownCap w (m.length + n.length) c 24 - (m.length + n.length), by omega⟩
    rw [hz', Nat.add_sub_cancel_left, zero_cells] at hrun
    have hcat : (catl m).toArray ++ (catl n).toArray ++ catc (List.replicate z 0) = catc (m ++ n ++ List.replicate z 0) := by
      simp [catc, catl_append]
    rw [hcat] at hrun
    have hr2 : (execOp a.eval o).run Try.prog w = .ok (.value (.slice (some ⟨w.heap.size, 0, none⟩) (m.length + n.length) (m.length + n.length + z))) (w.drew.alloc (Blk.obj ⟨catc (m ++ n ++ List.replicate z 0), 24⟩)) := by
      simp [execOp, ho, resolve, invoke, builtin, e1, e2, hrun, Blk.obj]
    unfold Oper.wp
    rw [hr2, Oper.upon_value]
    refine hK _ _ (hgrow z (upd ρ { val := .s n0 0 (m.length + n.length) (m.length + n.length + z), new := some (n0, ⟨catc (m ++ n ++ List.replicate z 0), 24⟩) } w.heap.size) _ _ (h.stepB h1 (by simpa [freshB] using h2) rfl (by simp [idB, AV.s]) ?_))
    exact ⟨by simp [AV.s, AV.to, upd], rfl, rfl, rfl, by simp, fun k hk _ => heap_alloc_lt w.drew _ hk, (fun _ hx => by cases hx), fun q hq => by cases hq; exact ⟨Nat.le_refl _, heap_alloc_same w.drew _⟩⟩
end Go.Proofs.Ytnbdeajjfhlmnaa
