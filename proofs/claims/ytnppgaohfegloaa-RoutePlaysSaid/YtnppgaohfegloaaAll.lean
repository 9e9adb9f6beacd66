/-
  The walk of All: what it goes over is laid in a slice.
-/
import Derived.Test.YtnppgaohfegloaaRowSet
namespace Go.Proofs.Ytnppgaohfegloaa
open Go.RowKit

/-- a slice of rows in a box of its own, all of it newer than what lay in w0 -/
def Coll (w0 : World) (bl : Nat) (l : List RowR) (w : World) : Prop :=
  Below w0.heap.size w0 w ∧ w0.heap.size ≤ bl ∧ ∃ v, w.heap[bl]? = some (cobj #[v] 68) ∧ w.ownsRow w0.heap.size 73 19 v l.length (catR l)
theorem Coll.abide {w0 : World} {bl B : Nat} {l : List RowR} (hB : w0.heap.size ≤ B) : Abide B (Coll w0 bl l) := fun A C ⟨h1, h2, v, h3, h4⟩ ht => ⟨abide_below w0 hB _ _ h1 ht, h2, v, ht.same _ _ h3 (.inr rfl), row_turn h4 ht⟩
theorem Coll.nodes {w0 : World} {bl : Nat} {l : List RowR} {w : World} (h : Coll w0 bl l w) {ids : Ids} {M : Tab} (hn : NodesIn ids M w0) : NodesIn ids M w := fun v d m b hb => by
  have h1 := hn v d m b hb
  rw [h.1.block b (lt_of_heap h1)]
  exact h1
def Marks (B : Nat) (Ds : List Nat) (w : World) : Prop := Ds.Nodup ∧ ∀ D ∈ Ds, B ≤ D ∧ w.heap[D]? = some (.deferred (some []))
theorem Marks.abide {B : Nat} {Ds : List Nat} {w : World} (h : Marks B Ds w) : Abide w.heap.size (Marks B Ds) := fun A C hA ht => ⟨hA.1, fun D hD => ⟨(hA.2 D hD).1, ht.same _ _ (hA.2 D hD).2 (.inl (lt_of_heap (h.2 D hD).2))⟩⟩
theorem Marks.step {B : Nat} {Ds : List Nat} {w w' : World} (h : Marks B Ds w) (hb : Below w.heap.size w w') : Marks B Ds w' := ⟨h.1, fun D hD => ⟨(h.2 D hD).1, by rw [hb.block D (lt_of_heap (h.2 D hD).2)]; exact (h.2 D hD).2⟩⟩
theorem Marks.nk {B : Nat} {Ds : List Nat} {w w' : World} (h : Marks B Ds w) (hb : NK B w w') : Marks B Ds w' := ⟨h.1, fun D hD => ⟨(h.2 D hD).1, hb.same _ _ (h.2 D hD).1 (h.2 D hD).2 rfl⟩⟩
theorem Marks.add {B : Nat} {Ds : List Nat} {w : World} {D : Nat} (h : Marks B Ds w) (hB : B ≤ D) (hD : w.heap[D]? = some (.deferred (some []))) (hn : D ∉ Ds) : Marks B (D :: Ds) w :=
  ⟨List.nodup_cons.2 ⟨hn, h.1⟩, fun D' hD' => by
    rcases List.mem_cons.1 hD' with rfl | hD'
    · exact ⟨hB, hD⟩
    · exact h.2 D' hD'⟩
/-- ALL THE ROWS OF A TABLE, in their order. -/
def allL (ids : Ids) (M : Tab) : List RowR := below ids M false 129 0 0 ++ below ids M true 129 0 0
def bit1 : Nat → Bool | 0 => false | _ => true
theorem roots_get (ids : Ids) (i : Nat) (hi : i < 2) : (#[ptrOf (ids false 0 0), ptrOf (ids true 0 0)] : Array Value)[i]? = some (ptrOf (ids (bit1 i) 0 0)) := by
  obtain rfl | rfl : i = 0 ∨ i = 1 := by omega
  · rfl
  · rfl
theorem len_pre {α : Type} {a b : List α} (h : a <+: b) : a.length ≤ b.length := h.length_le
set_option maxRecDepth 20000 in
set_option maxHeartbeats 4000000 in
theorem all_any {t : Nat} {ids : Ids} {M : Tab} {T : Hp} (hI : IsT t ids M T) (w : World) (hT : ∀ n o, T n = some o → hp w n = some o) (hlen : (allL ids M).length ≤ 1000) :
    Calls Try.prog 17 #[.pointer (some ⟨t, 0, none⟩)] w fun e w' => ∃ bl, e = .returned (.func (.func 32) #[] #[.pointer (some ⟨bl, 0, none⟩)]) ∧ Coll w bl (allL ids M) w' := by
  have hnodes : NodesIn ids M w := fun v d m b hb => hT _ _ (hI.node v d m b hb)
  have hroot : ∀ k, k < 2 → w.cell? ⟨t, 0 + k, none⟩ = (#[ptrOf (ids false 0 0), ptrOf (ids true 0 0)] : Array Value)[k]? := fun k hk => by
    rw [cell_of_obj (hT _ _ hI.root)]
    obtain rfl | rfl : k = 0 ∨ k = 1 := by omega
    · rfl
    · rfl
  obtain ⟨L, hL⟩ : ∃ L : Nat → List RowR, L = fun i => below ids M (bit1 i) 129 0 0 := ⟨_, rfl⟩
  have hall : upto [] L 2 = allL ids M := by rw [hL]; simp [upto, allL, bit1]
  refine calls_of_wp_marks Try.func17 rfl ?_
  simp only [Try.ntmps17, List.size_toArray, List.length_cons, List.length_nil, Nat.reduceAdd, Nat.reduceSub, Array.replicate_succ, Array.replicate_zero, List.push_toArray, List.append_toArray, List.nil_append, List.cons_append]
  have h := Rep.start (N := 25) [.pointer (some ⟨t, 0, none⟩)] [undef, undef, undef, undef, undef, undef, undef, undef, undef, undef, undef, undef, undef, undef, undef, undef, undef, undef, undef, undef, undef, undef, undef, undef] w rfl
  apply seq_dag hmix h
  case hw =>
    apply Walk.cons
    · exact ok_assign rfl rfl rfl
    exact Walk.nil _
  case hck => kernel_rfl
  case hQ =>
    intro ρ A w1 h
    apply seq_dag hmix h
    case hw =>
      apply Walk.cons
      · exact ok_alloc 3 rfl rfl zero68' (cs := #[.slice none 0 0]) rfl
      exact Walk.nil _
    case hck => kernel_rfl
    case hQ =>
      intro ρ A w1 h
      refine wp_seq ?_
      apply seq_dag hmix h
      case hw =>
        apply Walk.cons
        · exact ok_move rfl rfl rfl
        apply Walk.cons
        · exact ok_pure rfl (by kernel_rfl) (v := .bool true) (fun w => by kernel_rfl)
        exact Walk.nil _
      case hck => kernel_rfl
      case hQ =>
        intro ρ A w1 h
        refine if_true' h rfl ?_
        apply seq_dag hmix h
        case hw =>
          apply Walk.cons
          · exact ok_move rfl rfl rfl
          apply Walk.cons
          · first | exact ok_nil rfl rfl rfl | exact ok_nil_v rfl rfl rfl
          apply Walk.cons
          · first | exact ok_fld rfl rfl rfl fo60_0 rfl | exact ok_fld_v rfl rfl rfl fo60_0 rfl
          apply Walk.cons
          · exact ok_load_agg_ro rfl rfl rfl (fun h => h) agg58 sz58 rfl hroot
          apply Walk.cons
          · exact ok_move rfl rfl rfl
          exact Walk.nil _
        case hck => kernel_rfl
        case hQ =>
          intro ρ A w1 h
          have hm := h.mem 3 _ rfl
          have ho := h.own 3 _ rfl (ρ.num 3) (by rw [hm.2])
          obtain ⟨bl, hbl⟩ : ∃ bl, ρ.num 3 = bl := ⟨_, rfl⟩
          have hC : Coll w bl (upto [] L 0) w1 := ⟨h.lies, by rw [← hbl]; exact ho.resolve_right fun t => t, _, by rw [← hbl]; exact hm.1, World.ownsRow_nil _ _ _ _⟩
          have hM : Marks w.heap.size [] w1 := ⟨List.nodup_nil, fun D hD => by cases hD⟩
          have h := h.rebase [(3, .v (.pointer (some ⟨bl, 0, none⟩))), (12, .v (.agg #[ptrOf (ids false 0 0), ptrOf (ids true 0 0)])), (13, .v (.int .i64 (0 : Nat)))] ⟨⟨_, rfl, _, rfl, by rw [← hbl]; rfl⟩, ⟨_, rfl, _, rfl, rfl⟩, ⟨_, rfl, _, rfl, rfl⟩, trivial⟩
          clear hm ho hbl
          refine wp_block ?_
          refine wp_loop_ghost (fun m' a w1 => ∃ i ρ Ds, i + m' = 2 ∧ Coll w bl (upto [] L i) w1 ∧ Marks w.heap.size Ds w1 ∧
            Rep 25 ⟨[(3, .v (.pointer (some ⟨bl, 0, none⟩))), (12, .v (.agg #[ptrOf (ids false 0 0), ptrOf (ids true 0 0)])), (13, .v (.int .i64 (i : Nat)))], []⟩ ρ { W := w1, D := Ds.map markD } a w1) 2 ⟨0, _, [], rfl, hC, hM, h⟩ ?_
          clear h hC hM hroot
          rintro m' A2 w3 ⟨i, ρ, Ds, him, hC, hM, h⟩
          refine wp_seq ?_
          by_cases hi : i < 2
          · obtain ⟨p, hpp⟩ := ptrOf_ptr (ids (bit1 i) 0 0)
            have hki := roots_get ids i hi
            rw [hpp] at hki
            apply region_dag hmix h
            case hw =>
              apply Walk.cons
              · exact o_bin rfl rfl rfl rfl (r_lss (b := 2) (decide_eq_true hi))
              exact Walk.nil _
            case hck => kernel_rfl
            case hQ =>
              intro ρ A w1 h
              refine Exit.then_normal ?_
              refine wp_seq ?_
              refine if_true' h rfl (wp_skip (Exit.then_normal ?_))
              refine wp_seq (wp_block ?_)
              apply seq_dag hmix h
              case hw =>
                apply Walk.cons
                · exact o_index58 rfl rfl rfl rfl hki
                apply Walk.cons
                · exact ok_assign rfl rfl rfl
                exact Walk.nil _
              case hck => kernel_rfl
              case hQ =>
                intro ρ A w1 h
                apply seq_dag hmix h
                case hw =>
                  apply Walk.cons
                  · exact ok_move rfl rfl rfl
                  apply Walk.cons
                  · exact o_rows 41 rfl rfl rfl
                  exact Walk.nil _
                case hck => kernel_rfl
                case hQ =>
                  intro ρ A w1 h
                  have hcl := (h.mem 41 _ rfl).1
                  have hw1 := h.lies.size
                  have hC := Coll.abide (Nat.le_refl _) _ _ hC (h.turned _)
                  have hM := hM.step h.lies
                  obtain ⟨q', hq'⟩ : ∃ q', ρ.num 41 = q' := ⟨_, rfl⟩
                  have hcl : w1.heap[q']? = some (cobj #[ptrOf (ids (bit1 i) 0 0)] 57) := by rw [← hq', hpp]; exact hcl
                  have h := h.rebase [(3, .v (.pointer (some ⟨bl, 0, none⟩))), (12, .v (.agg #[ptrOf (ids false 0 0), ptrOf (ids true 0 0)])), (13, .v (.int .i64 (i : Nat))), (17, .v (.func (.func 34) #[] #[.pointer (some ⟨q', 0, none⟩)]))] ⟨⟨_, rfl, _, rfl, rfl⟩, ⟨_, rfl, _, rfl, rfl⟩, ⟨_, rfl, _, rfl, rfl⟩, ⟨_, rfl, _, rfl, by rw [← hq']; rfl⟩, trivial⟩
                  have hde := h.defers
                  refine wp_block ?_
                  have hsz1 : w.heap.size ≤ w1.heap.size := hC.1.size
                  have hdl : ∀ D ∈ Ds, D < w1.heap.size := fun D hD => lt_of_heap (hM.2 D hD).2
                  have hit : Iter Try.prog 34 #[.pointer (some ⟨q', 0, none⟩)] encR kt34 (L i) w1 := by rw [hL]; exact pre34 hI.deep _ 129 0 0 (by omega) w1 q' hcl (hC.nodes hnodes)
                  refine wp_rangeR (h.eval_tmp (t := 17) rfl) fn34 hit (Kept.refl _ _) (fun x => rfl)
                    (fun pre W' => Coll w bl (upto [] L i ++ pre) W' ∧ Marks w.heap.size Ds W') (fun _ _ _ => False)
                    (fun s => (Coll.abide hsz1).and hM.abide) (fun _ _ _ _ h _ => h)
                    ⟨by rw [List.append_nil]; exact hC, hM⟩
                    (fun x a' W' => ∃ r5, a'.tmps.size = 25 ∧ a'.defers = [] ∧ a'.tmps[3]? = some (.pointer (some ⟨bl, 0, none⟩)) ∧ a'.tmps[6]? = some (.pointer (some ⟨r5, 0, none⟩)) ∧ W'.heap[r5]? = some (cobj (rwc x) 73))
                    (fun x a' A B ⟨r5, h1, h2, h3, h4, h5⟩ ht => ⟨r5, h1, h2, h3, h4, ht.same _ _ h5 (.inr rfl)⟩) ?hassign ?hbody ?hdone ?hstop
                  case hassign =>
                    intro l' pre x W' K ⟨hj', hf'⟩ hpx hsz hK
                    have hy2 := h.slots 3 _ rfl
                    have hr := Rep.of_act (N := 25) (a := { tmps := yTmps A #[18] (encR x), defers := [] }) W' (by simp [yTmps, encR, h.size]) [(3, .v (.pointer (some ⟨bl, 0, none⟩))), (18, .v (.agg (rwc x)))] ⟨⟨_, rfl, by simpa [yTmps, encR] using hy2⟩, ⟨_, rfl, by simp [yTmps, encR, h.size]⟩, trivial⟩
                    apply region_round hmix no_outgrown hr
                    case hnd => rfl
                    case hw =>
                      apply Walk.cons
                      · exact ok_alloc 6 rfl rfl zero73 (cs := rwc ⟨false, 0, 0, 0⟩) rfl
                      apply Walk.cons
                      · exact ok_store_whole rfl rfl rfl rfl rfl sz73 rfl (one_rwc x) rfl
                      exact Walk.nil _
                    case hck => kernel_rfl
                    case hQ =>
                      intro ρ' a' w' _ hr
                      refine Exit.then_normal ?_
                      exact hK a' w' (NK.of_below hr.lies) ((hr.turned 0).kept _) ⟨Coll.abide (Nat.le_refl _) _ _ hj' (hr.turned _), hf'.step hr.lies⟩ ⟨ρ'.num 6, hr.size, hr.defers, hr.slots 3 _ rfl, hr.slots 6 _ rfl, (hr.mem 6 _ rfl).1⟩
                  case hbody =>
                    intro l' pre x a' W' ⟨hj', hf'⟩ ⟨r5, hsz, hdf, h2, h5, h73⟩ hpx hsz'
                    obtain ⟨hbel, hbl0, v, hbox, hown⟩ := hj'
                    have hcb : W'.cell? ⟨bl, 0, none⟩ = some v := by rw [cell_of_obj (show hp W' bl = _ from hbox)]; rfl
                    have hcr : ∀ k, k < 19 → W'.cell? ⟨r5, 0 + k, none⟩ = (rwc x)[k]? := fun k hk => by rw [cell_of_obj (show hp W' r5 = _ from h73), Nat.zero_add]
                    have hr := Rep.of_act (N := 25) (a := a') W' hsz [(3, .v (.pointer (some ⟨bl, 0, none⟩))), (6, .v (.pointer (some ⟨r5, 0, none⟩)))] ⟨⟨_, rfl, h2⟩, ⟨_, rfl, h5⟩, trivial⟩
                    refine wpIn_block (wpIn_region_lit ?_)
                    refine wplI_step hr rfl (ok_load_cell_ro rfl rfl rfl (fun h => h) one68' hcb) rfl rfl rfl rfl ?_
                    intro ρ a5 w5 hr
                    refine wplI_step hr rfl (ok_load_agg_ro rfl rfl rfl (fun h => h) agg73 sz73 rfl hcr) rfl rfl rfl rfl ?_
                    intro ρ a5 w5 hr
                    refine wplI_step hr rfl (o_lit73 21 rfl rfl rfl) rfl rfl rfl rfl ?_
                    intro ρ a5 w5 hr
                    have hlit := (hr.mem 21 _ rfl).1
                    have hs3 := hr.slots 3 _ rfl
                    have hown5 := row_turn hown (hr.turned 0)
                    have hbox5 := (hr.turned 0).same _ _ hbox (.inr rfl)
                    have hsz5 := hr.size
                    have hdf5 := hr.defers
                    obtain ⟨ie, hie, hies, hiez, hieb⟩ := info73
                    have hplen : pre.length + 1 ≤ (L i).length := by have := len_pre hpx; simpa using this
                    have hul : (upto [] L i ++ pre).length + 1 ≤ 1000 := by
                      have h1 := len_pre (upto_pre (own := []) hi hpx)
                      rw [hall] at h1
                      simp only [List.length_append, List.length_cons, List.length_nil] at h1 ⊢
                      omega
                    have hb1 : (upto [] L i ++ pre).length + 1 ≤ maxLen := by have : (1000 : Nat) ≤ maxLen := by decide
                                                                              omega
                    have hb2 : ((upto [] L i ++ pre).length + 1) * ie.bytes ≤ 140737488355328 := by have h2 : ((upto [] L i ++ pre).length + 1) * ie.bytes ≤ 1000 * 1000 := Nat.mul_le_mul hul hieb
                                                                                                    omega
                    have hb3 : w.heap.size ≤ w5.heap.size := Nat.le_trans hbel.size hr.lies.size
                    refine wpListIn_append_own w5 rfl (.tmp 19) (.tmp 21) 68 rfl w.heap.size 73 ie _ 19 ie.bytes u68' hie hiez hies rfl rfl (by decide) v _ _ (hr.eval_tmp (t := 19) rfl) hown5 ⟨ρ.num 21, 0, none⟩ 1 1 (rwc x).toList (hr.eval_tmp (t := 21) rfl) rfl
                      (fun j u hu => by rw [add_none, Nat.zero_add, cell_of_obj hlit]; simpa using hu) (fun u hu => one_catR [x] u (by simpa [catR] using hu)) hb1 hb2 hb3 ?_
                    intro v' w6 hown6 hg6 _
                    have hbn : some bl ≠ v.ownBlock := row_ne hown5 hbox5 (by decide)
                    have hbox6 : w6.heap[bl]? = some (cobj #[v] 68) := by rw [hg6.block bl (lt_of_heap hbox5) hbn]; exact hbox5
                    have hr6 := Rep.of_act1 (N := 25) (a := a5.put (some 22) v') (D := []) w6 (by simpa [Act.put, hdf] using hdf5) (by simpa [Act.put] using hsz5) 3 bl hbox6 [(3, .p 3 0), (22, .v v')] ⟨.inr ⟨0, rfl, by rw [get_put]; simpa using hs3⟩, .inl ⟨_, rfl, by rw [get_put]; simp [hsz5]⟩, trivial⟩
                    refine wplI_stepN hr6 rfl rfl (ok_store_cell (cs := #[v']) rfl rfl rfl rfl rfl sz68 (row_slice hown6) (Nat.zero_lt_one) rfl) rfl rfl rfl rfl ?_
                    intro ρ a7 w7 hnum hr7
                    refine wpListIn_nil ?_
                    have hbox7 := (hr7.mem 3 _ rfl).1
                    rw [hnum 3] at hbox7
                    have hbox7 : w7.heap[bl]? = some (cobj #[v'] 68) := hbox7
                    have hstep : ∀ k o, W'.heap[k]? = some o → some k ≠ v.ownBlock → k ≠ bl → w7.heap[k]? = some o := fun k o hk h1 h2 => by
                      have e5 : w5.heap[k]? = some o := by rw [hr.lies.block k (lt_of_heap hk)]; exact hk
                      have e6 : w6.heap[k]? = some o := by rw [hg6.block k (lt_of_heap e5) h1]; exact e5
                      exact (hr7.keeps.block k (lt_of_heap e6) h2).trans e6
                    have hsize : W'.heap.size ≤ w7.heap.size := Nat.le_trans hr.lies.size (Nat.le_trans hg6.size hr7.keeps.size)
                    have happ : upto [] L i ++ (pre ++ [x]) = (upto [] L i ++ pre) ++ [x] := (List.append_assoc _ _ _).symm
                    refine ⟨⟨hsize, fun k o _ hk hc => hstep k o hk (row_nocells hown hk hc) (fun e => by rw [e, hbox] at hk; cases hk; cases hc)⟩, ⟨hsize, fun k cs ty ht hk => hstep k _ hk (row_ne hown hk (fun e => by rw [e] at ht; cases ht)) (fun e => by
                      rw [e, hbox] at hk
                      simp only [cobj, Option.some.injEq, Obj.cells.injEq] at hk
                      rw [← hk.2.1] at ht
                      cases ht)⟩, ⟨⟨?_, ?_, ?_, Nat.le_trans hbel.size hsize, fun k hk => ?_⟩, hbl0, v', hbox7, ?_⟩, ⟨hf'.1, fun D hD => ⟨(hf'.2 D hD).1, hstep D _ (hf'.2 D hD).2 (row_nocells hown (hf'.2 D hD).2 rfl) (fun e => by have h9 := (hf'.2 D hD).2; rw [e, hbox] at h9; cases h9)⟩⟩⟩
                    · exact hr7.keeps.os.trans (hg6.os.trans (hr.lies.os.trans hbel.os))
                    · exact hr7.keeps.tape.trans (hg6.tape.trans (hr.lies.tape.trans hbel.tape))
                    · exact hr7.keeps.output.trans (hg6.output.trans (hr.lies.output.trans hbel.output))
                    · have e1 := hbel.block k hk
                      have e2 := Array.getElem?_eq_getElem hk
                      rw [e2] at e1 ⊢
                      exact hstep k _ e1 (fun e => by have := row_base hown e; omega) (by omega)
                    · rw [happ, List.length_append, catR_append]
                      refine row_keep (w := w6) ?_ (fun g hg => hr7.keeps.block g ?_ (fun e => row_ne hown6 hbox6 (by decide) (by rw [← e]; exact hg)))
                      · simpa [catR] using hown6
                      · exact row_lt hown6 hg
                  case hdone =>
                    intro D W' hD ⟨hj', hf'⟩ hDm
                    repeat (first | refine Exit.block_normal ?_ | refine Exit.then_normal ?_)
                    have hnD : D ∉ Ds := fun t => by have := hdl D t; omega
                    have hf' := hf'.add (Nat.le_trans hsz1 hD) hDm hnD
                    have h := Rep.of_actD (N := 25) (a := { A with defers := markD D :: A.defers }) (D := (D :: Ds).map markD) W' (by rw [hde]; rfl) h.size [(3, .v (.pointer (some ⟨bl, 0, none⟩))), (12, .v (.agg #[ptrOf (ids false 0 0), ptrOf (ids true 0 0)])), (13, .v (.int .i64 (i : Nat)))] ⟨⟨_, rfl, h.slots 3 _ rfl⟩, ⟨_, rfl, h.slots 12 _ rfl⟩, ⟨_, rfl, h.slots 13 _ rfl⟩, trivial⟩
                    apply region_dag hmix h
                    case hw =>
                      apply Walk.cons
                      · exact o_bin rfl rfl rfl rfl (r_addi (b := 1) (by omega))
                      apply Walk.cons
                      · exact ok_move rfl rfl rfl
                      exact Walk.nil _
                    case hck => kernel_rfl
                    case hQ =>
                      intro ρ A w1 h
                      refine ⟨m' - 1, by omega, i + 1, _, D :: Ds, by omega, Coll.abide (Nat.le_refl _) _ _ hj' (h.turned _), hf'.step h.lies, h.rebase _ ⟨⟨_, rfl, _, rfl, rfl⟩, ⟨_, rfl, _, rfl, rfl⟩, ⟨_, rfl, _, rfl, rfl⟩, trivial⟩⟩
                  case hstop =>
                    intro D c pre W' _ _ hf
                    exact hf.elim
          · obtain rfl : i = 2 := by omega
            apply region_dag hmix h
            case hw =>
              apply Walk.cons
              · exact o_bin rfl rfl rfl rfl (r_lss (b := 2) (decide_eq_false hi))
              exact Walk.nil _
            case hck => kernel_rfl
            case hQ =>
              intro ρ A w1 h
              refine Exit.then_normal ?_
              refine wp_seq ?_
              refine if_false' h rfl (wp_exit ?_)
              repeat (first | refine Exit.thenExit ?_ | refine Exit.blockExitNe (by decide) ?_)
              refine Exit.blockExit ?_
              refine Exit.then_normal ?_
              have hC := Coll.abide (Nat.le_refl _) _ _ hC (h.turned _)
              have hM := hM.step h.lies
              have h := h.rebase [(3, .v (.pointer (some ⟨bl, 0, none⟩)))] ⟨⟨_, rfl, _, rfl, rfl⟩, trivial⟩
              apply seq_dag hmix h
              case hw =>
                apply Walk.cons
                · exact ok_pure rfl (by kernel_rfl) (v := .func (.func 32) #[] #[.pointer (some ⟨bl, 0, none⟩)]) (fun w => by kernel_rfl)
                apply Walk.cons
                · exact ok_assign rfl rfl rfl
                exact Walk.nil _
              case hck => kernel_rfl
              case hQ =>
                intro ρ A w1 h
                refine wp_ret ?_
                refine ret_marks (B := w.heap.size) Ds _ h.defers (hM.step h.lies).2 hM.1 fun w' ht => ?_
                have hs2 := h.slots 2 _ rfl
                refine ⟨_, by simp [results, Try.results17, hs2], bl, rfl, ?_⟩
                rw [← hall]
                exact Coll.abide (Nat.le_refl _) _ _ (Coll.abide (Nat.le_refl _) _ _ hC (h.turned _)) ht
end Go.Proofs.Ytnppgaohfegloaa
