/-
  The walk of the law's own test of All: both ranges.
-/
import Derived.Test.YtnppgaohfegloaaFree
namespace Go.Proofs.Ytnppgaohfegloaa
open Go.RowKit

structure S23 (w0 : World) (b3 b4 b6 bl B B2 : Nat) (v vc : Value) (L : List RowR) (k : Nat) (W : World) : Prop where
  bel : Below w0.heap.size w0 W
  c3 : W.heap[b3]? = some (cobj #[v] 49)
  c4 : W.heap[b4]? = some (cobj #[.bool false] 4)
  c6 : W.heap[b6]? = some (cobj #[.int .i64 (k : Nat)] 3)
  cl : W.heap[bl]? = some (cobj #[vc] 68)
  rl : W.ownsRow B2 73 19 vc L.length (catR L)
  rv : W.ownsRow B 76 19 v L.length (catR L)
theorem S23.abide {w0 : World} {b3 b4 b6 bl B B2 : Nat} {v vc : Value} {L : List RowR} {k B' : Nat} (hB : w0.heap.size ≤ B') : Abide B' (S23 w0 b3 b4 b6 bl B B2 v vc L k) := fun A C h ht =>
  ⟨abide_below w0 hB _ _ h.bel ht, ht.same _ _ h.c3 (.inr rfl), ht.same _ _ h.c4 (.inr rfl), ht.same _ _ h.c6 (.inr rfl), ht.same _ _ h.cl (.inr rfl), row_turn h.rl ht, row_turn h.rv ht⟩
theorem hb_of {w : World} {g : Nat} {v : Value} {t : TypeId} (h : w.heap[g]? = some (cobj #[v] t)) : w.cell? ⟨g, 0, none⟩ = some v := by rw [cell_of_obj (show hp w g = _ from h)]; rfl
theorem row_cells {w : World} {B e g cap i : Nat} {L : List RowR} {x : RowR} (h : w.ownsRow B e 19 (.slice (some ⟨g, 0, none⟩) L.length cap) L.length (catR L)) (hx : L[i]? = some x) : ∀ k, k < 19 → w.cell? ⟨g, 0 + i * 19 + k, none⟩ = (rwc x)[k]? := fun k hk => by
  have hi : i < L.length := (List.getElem?_eq_some_iff.1 hx).1
  rcases row_form h with ⟨h1, _⟩ | ⟨g', cap', h1, _, _, _, h2⟩
  · cases h1
  · cases h1
    have : i * 19 + k < L.length * 19 := by omega
    rw [Nat.zero_add, h2 _ this, catR_get hx hk]
theorem prefix_get {α : Type} {pre L : List α} {x : α} (h : pre ++ [x] <+: L) : L[pre.length]? = some x := by
  obtain ⟨t, rfl⟩ := h
  simp
set_option maxRecDepth 20000 in
set_option maxHeartbeats 8000000 in
theorem all23 {t : Nat} {ids : Ids} {M : Tab} {T : Hp} (hI : IsT t ids M T) (w : World) (hT : ∀ n o, T n = some o → hp w n = some o) {L : List RowR} (hall : allL ids M = L) (hcnt : M.cnt = L.length) (hlen : L.length ≤ 1000) (hwf : ∀ x ∈ L, x.n < 2 ^ 128)
    {v : Value} {B : Nat} (hv : w.ownsRow B 76 19 v L.length (catR L)) : Calls Try.prog 23 #[.pointer (some ⟨t, 0, none⟩), v] w fun e w' => e = .returned (.bool true) ∧ Below w.heap.size w w' := by
  obtain ⟨adv, capv, rfl, hformv⟩ := row_gen hv
  have hTl : ∀ {w'}, Below w.heap.size w w' → ∀ n o, T n = some o → hp w' n = some o := fun hb n o hn => by
    have h1 := hT n o hn
    show _ = _
    rw [hp, hb.block n (lt_of_hp h1)]
    exact h1
  refine calls_of_wp_marks Try.func23 rfl ?_
  simp only [Try.ntmps23, List.size_toArray, List.length_cons, List.length_nil, Nat.reduceAdd, Nat.reduceSub, Array.replicate_succ, Array.replicate_zero, List.push_toArray, List.append_toArray, List.nil_append, List.cons_append]
  have h := Rep.start (N := 65) [.pointer (some ⟨t, 0, none⟩), .slice adv L.length capv] [undef, undef, undef, undef, undef, undef, undef, undef, undef, undef, undef, undef, undef, undef, undef, undef, undef, undef, undef, undef, undef, undef, undef, undef, undef, undef, undef, undef, undef, undef, undef, undef, undef, undef, undef, undef, undef, undef, undef, undef, undef, undef, undef, undef, undef, undef, undef, undef, undef, undef, undef, undef, undef, undef, undef, undef, undef, undef, undef, undef, undef, undef, undef] w rfl
  apply seq_dag hmix h
  case hw =>
    apply Walk.cons
    · exact ok_box 3 rfl rfl rfl rfl (cs := #[.slice adv L.length capv])
    apply Walk.cons
    · exact ok_alloc 4 rfl rfl zero4 (cs := #[.bool false]) rfl
    exact Walk.nil _
  case hck => kernel_rfl
  case hQ =>
    intro ρ A w1 h
    have m3 := (h.mem 3 _ rfl).1
    have m4 := (h.mem 4 _ rfl).1
    have o3 := (h.own 3 _ rfl (ρ.num 3) (by rw [(h.mem 3 _ rfl).2])).resolve_right fun t => t
    have o4 := (h.own 4 _ rfl (ρ.num 4) (by rw [(h.mem 4 _ rfl).2])).resolve_right fun t => t
    obtain ⟨b3, e3⟩ : ∃ b, ρ.num 3 = b := ⟨_, rfl⟩
    obtain ⟨b4, e4⟩ : ∃ b, ρ.num 4 = b := ⟨_, rfl⟩
    rw [e3] at m3 o3
    rw [e4] at m4 o4
    have o3 : w.heap.size ≤ b3 := o3
    have o4 : w.heap.size ≤ b4 := o4
    have hbel := h.lies
    have h := h.rebase [(0, .v (.pointer (some ⟨t, 0, none⟩))), (3, .v (.pointer (some ⟨b3, 0, none⟩))), (4, .v (.pointer (some ⟨b4, 0, none⟩)))] ⟨⟨_, rfl, _, rfl, rfl⟩, ⟨_, rfl, _, rfl, by rw [← e3]; rfl⟩, ⟨_, rfl, _, rfl, by rw [← e4]; rfl⟩, trivial⟩
    refine seq_list ?_
    refine wpl_step h rfl (ok_move rfl rfl rfl) rfl rfl rfl rfl ?_
    intro ρ A w2 h
    refine wpl_free h rfl rfl fn17 [.v _] rfl (all_any hI w2 (hTl (hbel.trans (h.lies.mono hbel.size))) (by rw [hall]; exact hlen)) ?_
    rintro e w3 ⟨bl, rfl, hC⟩
    refine ⟨_, rfl, ?_⟩
    rw [hall] at hC
    have hbel2 := hbel.trans (h.lies.mono hbel.size)
    have m3 := (h.turned 0).same _ _ m3 (.inr rfl)
    have m4 := (h.turned 0).same _ _ m4 (.inr rfl)
    have m3 := ((Turn.of_below (B := 0) hC.1)).same _ _ m3 (.inr rfl)
    have m4 := ((Turn.of_below (B := 0) hC.1)).same _ _ m4 (.inr rfl)
    have hbel3 := hbel2.trans (hC.1.mono hbel2.size)
    obtain ⟨_, hbl2, vc, hcl, hrl⟩ := hC
    have h := (h.rebase [(0, .v (.pointer (some ⟨t, 0, none⟩))), (3, .v (.pointer (some ⟨b3, 0, none⟩))), (4, .v (.pointer (some ⟨b4, 0, none⟩)))] ⟨⟨_, rfl, _, rfl, rfl⟩, ⟨_, rfl, _, rfl, rfl⟩, ⟨_, rfl, _, rfl, rfl⟩, trivial⟩).freed (d := 11) (by decide) (.func (.func 32) #[] #[.pointer (some ⟨bl, 0, none⟩)]) w3
    refine wpl_step h rfl (ok_assign rfl rfl rfl) rfl rfl rfl rfl ?_
    intro ρ A w4 h
    refine wpList_nil ?_
    refine Exit.then_normal ?_
    refine wp_seq ?_
    apply seq_dag hmix h
    case hw =>
      apply Walk.cons
      · exact ok_move rfl rfl rfl
      apply Walk.cons
      · exact ok_pure rfl (by kernel_rfl) (v := .bool false) (fun w => by kernel_rfl)
      exact Walk.nil _
    case hck => kernel_rfl
    case hQ =>
      intro ρ A w1 h
      refine if_false' h rfl (wp_skip (Exit.then_normal ?_))
      apply seq_dag hmix h
      case hw =>
        apply Walk.cons
        · exact ok_alloc 6 rfl rfl zero3 (cs := #[.int .i64 0]) rfl
        apply Walk.cons
        · exact ok_store_cell (cs := #[.int .i64 (0 : Nat)]) rfl rfl rfl rfl rfl sz3 rfl (by decide) rfl
        exact Walk.nil _
      case hck => kernel_rfl
      case hQ =>
        intro ρ A w1 h
        refine wp_seq ?_
        apply seq_dag hmix h
        case hw =>
          apply Walk.cons
          · exact ok_move rfl rfl rfl
          exact Walk.nil _
        case hck => kernel_rfl
        case hQ =>
          intro ρ A w1 h
          have hcl := (h.turned 0).same _ _ hcl (.inr rfl)
          have hrl := row_turn hrl (h.turned 0)
          have m3 := (h.turned 0).same _ _ m3 (.inr rfl)
          have m4 := (h.turned 0).same _ _ m4 (.inr rfl)
          have m6 := (h.mem 6 _ rfl).1
          have o6 := (h.own 6 _ rfl (ρ.num 6) (by rw [(h.mem 6 _ rfl).2])).resolve_right fun t => t
          have hbel4 := hbel3.trans (h.lies.mono hbel3.size)
          obtain ⟨b6, e6⟩ : ∃ b, ρ.num 6 = b := ⟨_, rfl⟩
          rw [e6] at m6 o6
          have o6 : w.heap.size ≤ b6 := Nat.le_trans hbel3.size o6
          have hS : S23 w b3 b4 b6 bl B w2.heap.size (.slice adv L.length capv) vc L 0 w1 := ⟨hbel4, m3, m4, m6, hcl, hrl, row_turn hv (Turn.of_below (B := 0) hbel4)⟩
          have h := h.rebase [(0, .v (.pointer (some ⟨t, 0, none⟩))), (3, .v (.pointer (some ⟨b3, 0, none⟩))), (4, .v (.pointer (some ⟨b4, 0, none⟩))), (5, .v (.func (.func 32) #[] #[.pointer (some ⟨bl, 0, none⟩)])), (6, .v (.pointer (some ⟨b6, 0, none⟩))), (14, .v (.func (.func 32) #[] #[.pointer (some ⟨bl, 0, none⟩)]))] ⟨⟨_, rfl, _, rfl, rfl⟩, ⟨_, rfl, _, rfl, rfl⟩, ⟨_, rfl, _, rfl, rfl⟩, ⟨_, rfl, _, rfl, rfl⟩, ⟨_, rfl, _, rfl, by rw [← e6]; rfl⟩, ⟨_, rfl, _, rfl, rfl⟩, trivial⟩
          clear hbel hbel2 hbel3 hbel4 m3 m4 m6 hcl hrl hv e3 e4 e6
          have hde := h.defers
          refine wp_block ?_
          have hsz1 := hS.bel.size
          refine wp_rangeR (h.eval_tmp (t := 14) rfl) fn32 (seq_iter hlen w1 hS.cl hS.rl) (Kept.refl _ _) (fun x => rfl)
            (fun pre W' => S23 w b3 b4 b6 bl B w2.heap.size (.slice adv L.length capv) vc L pre.length W') (fun _ _ _ => False)
            (fun s => S23.abide hsz1) (fun _ _ _ _ h _ => h) hS
            (fun x a' W' => ∃ b7, a'.tmps.size = 65 ∧ a'.defers = [] ∧ a'.tmps[3]? = some (.pointer (some ⟨b3, 0, none⟩)) ∧ a'.tmps[6]? = some (.pointer (some ⟨b6, 0, none⟩)) ∧ a'.tmps[7]? = some (.pointer (some ⟨b7, 0, none⟩)) ∧ a'.tmps[8]? = some (.int .i64 x.o) ∧ W'.heap[b7]? = some (cobj (pfc x.v x.n x.b) 31))
            (fun x a' A B ⟨r5, h1, h2, h3, h4, h5, h6, h7⟩ ht => ⟨r5, h1, h2, h3, h4, h5, h6, ht.same _ _ h7 (.inr rfl)⟩) ?hassign ?hbody ?hdone ?hstop
          case hstop =>
            intro D c pre W' _ _ hf
            exact hf.elim
          case hassign =>
            intro l' pre x W' K hS' hpx hsz hK
            have hr := Rep.of_act (N := 65) (a := { tmps := yTmps A #[15, 16] (encP x), defers := [] }) W' (by simp [yTmps, encP, h.size]) [(3, .v (.pointer (some ⟨b3, 0, none⟩))), (6, .v (.pointer (some ⟨b6, 0, none⟩))), (15, .v (.agg (pfc x.v x.n x.b))), (16, .v (.int .i64 x.o))]
              ⟨⟨_, rfl, by simpa [yTmps, encP] using h.slots 3 _ rfl⟩, ⟨_, rfl, by simpa [yTmps, encP] using h.slots 6 _ rfl⟩, ⟨_, rfl, by simp [yTmps, encP, h.size, Array.getElem?_setIfInBounds_ne]⟩, ⟨_, rfl, by simp [yTmps, encP, h.size]⟩, trivial⟩
            refine wpIn_seq ?_
            apply region_round hmix (fun ⟨_, _, h⟩ => h) hr
            case hnd => rfl
            case hw =>
              apply Walk.cons
              · exact o_alloc31 7 rfl rfl
              apply Walk.cons
              · exact o_store31 rfl rfl rfl rfl rfl
              exact Walk.nil _
            case hck => kernel_rfl
            case hQ =>
              intro ρ' a' w' _ hr
              refine Exit.then_normal ?_
              apply region_round hmix no_outgrown hr
              case hnd => rfl
              case hw =>
                apply Walk.cons
                · exact ok_assign rfl rfl rfl
                exact Walk.nil _
              case hck => kernel_rfl
              case hQ =>
                intro ρ' a' w' _ hr
                refine Exit.then_normal ?_
                exact hK a' w' (NK.of_below hr.lies) ((hr.turned 0).kept _) (S23.abide (Nat.le_refl _) _ _ hS' (hr.turned _)) ⟨ρ'.num 7, hr.size, hr.defers, hr.slots 3 _ rfl, hr.slots 6 _ rfl, hr.slots 7 _ rfl, hr.slots 8 _ rfl, (hr.mem 7 _ rfl).1⟩
          case hbody =>
            intro l' pre x a' W' hS' ⟨b7, hsz, hdf, h3, h6, h7, h8, h31⟩ hpx hsz'
            have hx := prefix_get hpx
            have hpl : pre.length < L.length := (List.getElem?_eq_some_iff.1 hx).1
            obtain ⟨g, rfl, hBg, _⟩ := hformv (by omega)
            have hcr := row_cells hS'.rv hx
            have hn := hwf x (List.mem_of_getElem? hx)
            have hc7 : ∀ k, k < 18 → W'.cell? ⟨b7, 0 + k, none⟩ = (pfc x.v x.n x.b)[k]? := fun k hk => by rw [cell_of_obj (show hp W' b7 = _ from h31), Nat.zero_add]
            have hcp : ∀ k, k < 18 → W'.cell? ⟨g, 0 + pre.length * 19 + 0 + k, none⟩ = (pfc x.v x.n x.b)[k]? := fun k hk => by
              rw [Nat.add_zero, hcr k (by omega)]
              simpa using rwc_pfc x k hk
            have hr := Rep.of_actD (N := 65) (a := a') W' hdf hsz [(3, .v (.pointer (some ⟨b3, 0, none⟩))), (6, .v (.pointer (some ⟨b6, 0, none⟩))), (7, .v (.pointer (some ⟨b7, 0, none⟩))), (8, .v (.int .i64 x.o))] ⟨⟨_, rfl, h3⟩, ⟨_, rfl, h6⟩, ⟨_, rfl, h7⟩, ⟨_, rfl, h8⟩, trivial⟩
            refine wpIn_block (wpIn_seq (wpIn_seq ?_))
            apply region_round hmix (fun ⟨_, _, h⟩ => h) hr
            case hnd => rfl
            case hw =>
              apply Walk.cons
              · exact ok_load_cell_ro rfl rfl rfl (fun h => h) one3 (hb_of hS'.c6)
              apply Walk.cons
              · exact ok_load_cell_ro rfl rfl rfl (fun h => h) one49 (hb_of hS'.c3)
              apply Walk.cons
              · exact ok_len_ro rfl rfl rfl Try.underlying49
              apply Walk.cons
              · exact o_bin rfl rfl rfl rfl (r_geqi (decide_eq_false (by omega)))
              apply Walk.cons
              · exact ok_move rfl rfl rfl
              apply Walk.cons
              · exact ok_load_cell_ro rfl rfl rfl (fun h => h) one49 (hb_of hS'.c3)
              apply Walk.cons
              · exact ok_load_cell_ro rfl rfl rfl (fun h => h) one3 (hb_of hS'.c6)
              apply Walk.cons
              · exact ok_index_slice_ro rfl rfl rfl rfl Try.underlying49 sz76 hpl
              apply Walk.cons
              · exact ok_fld_v rfl rfl rfl fo76_0 rfl
              apply Walk.cons
              · exact ok_load_agg_ro rfl rfl rfl (fun h => h) agg31 sz31 rfl hcp
              apply Walk.cons
              · exact ok_load_agg_ro rfl rfl rfl (fun h => h) agg31 sz31 rfl hc7
              apply Walk.cons
              · exact o_neq31 rfl rfl rfl rfl hn hn (c := false) (by simp)
              apply Walk.cons
              · exact ok_pick_false rfl rfl rfl rfl
              apply Walk.cons
              · exact ok_move rfl rfl rfl
              apply Walk.cons
              · exact ok_load_cell_ro rfl rfl rfl (fun h => h) one49 (hb_of hS'.c3)
              apply Walk.cons
              · exact ok_load_cell_ro rfl rfl rfl (fun h => h) one3 (hb_of hS'.c6)
              apply Walk.cons
              · exact ok_index_slice_ro rfl rfl rfl rfl Try.underlying49 sz76 hpl
              apply Walk.cons
              · exact ok_fld_v rfl rfl rfl fo76_1 rfl
              apply Walk.cons
              · exact ok_load_cell_ro rfl rfl rfl (fun h => h) one3 ((hcr 18 (by decide)).trans (rwc_o x))
              apply Walk.cons
              · first | exact ok_skip rfl | exact ok_skip_u rfl | exact ok_move rfl rfl rfl
              apply Walk.cons
              · exact o_bin rfl rfl rfl rfl (r_neqz (decide_eq_false (fun h => h rfl)))
              apply Walk.cons
              · exact ok_pick_false rfl rfl rfl rfl
              exact Walk.nil _
            case hck => kernel_rfl
            case hQ =>
              intro ρ' a5 w5 _ hr
              refine Exit.then_normal ?_
              refine wpIn_cond_false (hr.eval_tmp (t := 38) rfl) (wpIn_skip ?_)
              refine Exit.then_normal ?_
              have hbox5 := (hr.turned 0).same _ _ hS'.c6 (.inr rfl)
              have hr6 := Rep.of_act1 (N := 65) (a := a5) w5 hr.defers hr.size 6 b6 hbox5 [(6, .p 6 0)] ⟨.inr ⟨0, rfl, hr.slots 6 _ rfl⟩, trivial⟩
              refine wpIn_region_lit ?_
              refine wplI_stepN hr6 rfl rfl (ok_load_cell rfl rfl rfl rfl one3 rfl) rfl rfl rfl rfl ?_
              intro ρ a6 w6 hag6 hr7
              refine wplI_stepN hr7 rfl rfl (o_bin rfl rfl rfl rfl (r_addi (b := 1) (by omega))) rfl rfl rfl rfl ?_
              intro ρ a6 w6 hag7 hr7
              refine wplI_stepN hr7 rfl rfl (ok_store_cell (cs := #[.int .i64 (pre.length + 1 : Nat)]) rfl rfl rfl rfl rfl sz3 rfl (Nat.zero_lt_one) rfl) rfl rfl rfl rfl ?_
              intro ρ a7 w7 hag8 hr7
              refine wpListIn_nil ?_
              have hnum : ρ.num 6 = b6 := (hag8 6).trans ((hag7 6).trans (hag6 6))
              have hbox7 := (hr7.mem 6 _ rfl).1
              rw [hnum] at hbox7
              have hstep : ∀ k o, W'.heap[k]? = some o → k ≠ b6 → w7.heap[k]? = some o := fun k o hk h2 => by
                have e5 : w5.heap[k]? = some o := by rw [hr.lies.block k (lt_of_heap hk)]; exact hk
                exact (hr7.keeps.block k (lt_of_heap e5) h2).trans e5
              have hsize : W'.heap.size ≤ w7.heap.size := Nat.le_trans hr.lies.size hr7.keeps.size
              refine ⟨⟨hsize, fun k o _ hk hc => hstep k o hk (fun e => by rw [e, hS'.c6] at hk; cases hk; cases hc)⟩, ⟨hsize, fun k cs ty ht hk => hstep k _ hk (fun e => by
                rw [e, hS'.c6] at hk
                simp only [cobj, Option.some.injEq, Obj.cells.injEq] at hk
                rw [← hk.2.1] at ht
                cases ht)⟩, ?_⟩
              show S23 w b3 b4 b6 bl B w2.heap.size _ vc L (pre ++ [x]).length w7
              rw [List.length_append]
              refine ⟨⟨hr7.keeps.os.trans (hr.lies.os.trans hS'.bel.os), hr7.keeps.tape.trans (hr.lies.tape.trans hS'.bel.tape), hr7.keeps.output.trans (hr.lies.output.trans hS'.bel.output), Nat.le_trans hS'.bel.size hsize, fun k hk => ?_⟩,
                hstep _ _ hS'.c3 (obj_ne hS'.c3 hS'.c6 (by decide)), hstep _ _ hS'.c4 (obj_ne hS'.c4 hS'.c6 (by decide)), hbox7, hstep _ _ hS'.cl (obj_ne hS'.cl hS'.c6 (by decide)), ?_, ?_⟩
              · have e1 := hS'.bel.block k hk
                have e2 := Array.getElem?_eq_getElem hk
                rw [e2] at e1 ⊢
                exact hstep k _ e1 (by omega)
              · exact row_keepC hS'.rl fun g cur hg => hstep g _ hg (obj_ne hg hS'.c6 (by decide))
              · exact row_keepC hS'.rv fun g cur hg => hstep g _ hg (obj_ne hg hS'.c6 (by decide))
          case hdone =>
            intro D W' hD hS' hDm
            repeat (first | refine Exit.block_normal ?_ | refine Exit.then_normal ?_)
            have hM : Marks w.heap.size [D] W' := ⟨by simp, fun D' hD' => by
              obtain rfl : D' = D := by simpa using hD'
              exact ⟨Nat.le_trans hsz1 hD, hDm⟩⟩
            have h := Rep.of_actD (N := 65) (a := { A with defers := markD D :: A.defers }) (D := [D].map markD) W' (by rw [hde]; rfl) h.size [(0, .v (.pointer (some ⟨t, 0, none⟩))), (3, .v (.pointer (some ⟨b3, 0, none⟩))), (4, .v (.pointer (some ⟨b4, 0, none⟩))), (5, .v (.func (.func 32) #[] #[.pointer (some ⟨bl, 0, none⟩)])), (6, .v (.pointer (some ⟨b6, 0, none⟩)))] ⟨⟨_, rfl, h.slots 0 _ rfl⟩, ⟨_, rfl, h.slots 3 _ rfl⟩, ⟨_, rfl, h.slots 4 _ rfl⟩, ⟨_, rfl, h.slots 5 _ rfl⟩, ⟨_, rfl, h.slots 6 _ rfl⟩, trivial⟩
            clear hS
            refine wp_seq (wp_seq ?_)
            apply region_dag hmix h
            case hw =>
              apply Walk.cons
              · exact ok_move rfl rfl rfl
              exact Walk.nil _
            case hck => kernel_rfl
            case hQ =>
              intro ρ A w1 h
              refine Exit.then_normal ?_
              have hS := S23.abide (Nat.le_refl _) _ _ hS' (h.turned _)
              have hM := hM.step h.lies
              have h := h.rebase [(0, .v (.pointer (some ⟨t, 0, none⟩))), (3, .v (.pointer (some ⟨b3, 0, none⟩))), (4, .v (.pointer (some ⟨b4, 0, none⟩))), (5, .v (.func (.func 32) #[] #[.pointer (some ⟨bl, 0, none⟩)])), (6, .v (.pointer (some ⟨b6, 0, none⟩))), (41, .v (.func (.func 32) #[] #[.pointer (some ⟨bl, 0, none⟩)]))] ⟨⟨_, rfl, _, rfl, rfl⟩, ⟨_, rfl, _, rfl, rfl⟩, ⟨_, rfl, _, rfl, rfl⟩, ⟨_, rfl, _, rfl, rfl⟩, ⟨_, rfl, _, rfl, rfl⟩, ⟨_, rfl, _, rfl, rfl⟩, trivial⟩
              have hde := h.defers
              have hsz1 := hS.bel.size
              clear hS' hDm hD
              obtain ⟨K1, hK1⟩ : ∃ K1 : Act → World → Prop, K1 = fun a w' => ∃ Ds ρ, Marks w.heap.size Ds w' ∧ S23 w b3 b4 b6 bl B w2.heap.size (.slice adv L.length capv) vc L L.length w' ∧ Rep 65 ⟨[(0, .v (.pointer (some ⟨t, 0, none⟩))), (3, .v (.pointer (some ⟨b3, 0, none⟩))), (4, .v (.pointer (some ⟨b4, 0, none⟩))), (6, .v (.pointer (some ⟨b6, 0, none⟩)))], []⟩ ρ { W := w', D := Ds.map markD } a w' := ⟨_, rfl⟩
              refine wp_join K1 ?_ ?_
              · refine wp_block ?_
                have hdl : ∀ D' ∈ [D], D' < w1.heap.size := fun D' hD' => lt_of_heap (hM.2 D' hD').2
                have hfin : ∀ (D2 : Nat) (W' : World), w1.heap.size ≤ D2 → S23 w b3 b4 b6 bl B w2.heap.size (.slice adv L.length capv) vc L L.length W' → Marks w.heap.size [D] W' → W'.heap[D2]? = some (.deferred (some [])) → K1 { A with defers := markD D2 :: A.defers } W' := by
                  intro D2 W' hD2 hS2 hM2 hm2
                  rw [hK1]
                  refine ⟨[D2, D], ρ0, hM2.add (Nat.le_trans hsz1 hD2) hm2 (fun t => by have := hdl D2 t; omega), hS2, ?_⟩
                  exact Rep.of_actD (N := 65) (a := { A with defers := markD D2 :: A.defers }) (D := [D2, D].map markD) W' (by rw [hde]; rfl) h.size _ ⟨⟨_, rfl, h.slots 0 _ rfl⟩, ⟨_, rfl, h.slots 3 _ rfl⟩, ⟨_, rfl, h.slots 4 _ rfl⟩, ⟨_, rfl, h.slots 6 _ rfl⟩, trivial⟩
                refine wp_rangeR (h.eval_tmp (t := 41) rfl) fn32 (seq_iter hlen w1 hS.cl hS.rl) (Kept.refl _ _) (fun x => rfl)
                  (fun pre W' => pre = [] ∧ S23 w b3 b4 b6 bl B w2.heap.size (.slice adv L.length capv) vc L L.length W' ∧ Marks w.heap.size [D] W') (fun c _ W' => c = .exit 2 ∧ S23 w b3 b4 b6 bl B w2.heap.size (.slice adv L.length capv) vc L L.length W' ∧ Marks w.heap.size [D] W')
                  (fun s => (abide_pure _ _).and ((S23.abide hsz1).and hM.abide)) (fun c s => (abide_pure _ _).and ((S23.abide hsz1).and hM.abide)) ⟨rfl, hS, hM⟩
                  (fun x a' W' => ∃ b9, a'.tmps.size = 65 ∧ a'.defers = [] ∧ a'.tmps[3]? = some (.pointer (some ⟨b3, 0, none⟩)) ∧ a'.tmps[9]? = some (.pointer (some ⟨b9, 0, none⟩)) ∧ W'.heap[b9]? = some (cobj (pfc x.v x.n x.b) 31))
                  (fun x a' A B ⟨r5, h1, h2, h3, h4, h5⟩ ht => ⟨r5, h1, h2, h3, h4, ht.same _ _ h5 (.inr rfl)⟩) ?hassign2 ?hbody2 ?hdone2 ?hstop2
                case hdone2 =>
                  intro D2 W' hD2 ⟨_, hS2, hM2⟩ hm2
                  repeat (first | refine Exit.block_normal ?_ | refine Exit.then_normal ?_)
                  exact hfin D2 W' hD2 hS2 hM2 hm2
                case hstop2 =>
                  intro D2 c pre W' hD2 _ ⟨hc, hS2, hM2⟩ hm2
                  subst hc
                  refine wp_exit ?_
                  refine Exit.blockExit ?_
                  exact hfin D2 W' hD2 hS2 hM2 hm2
                case hassign2 =>
                  intro l' pre x W' K ⟨hp0, hS', hM'⟩ hpx hsz hK
                  have hr := Rep.of_act (N := 65) (a := { tmps := yTmps A #[42, 43] (encP x), defers := [] }) W' (by simp [yTmps, encP, h.size]) [(3, .v (.pointer (some ⟨b3, 0, none⟩))), (42, .v (.agg (pfc x.v x.n x.b))), (43, .v (.int .i64 x.o))]
                    ⟨⟨_, rfl, by simpa [yTmps, encP] using h.slots 3 _ rfl⟩, ⟨_, rfl, by simp [yTmps, encP, h.size, Array.getElem?_setIfInBounds_ne]⟩, ⟨_, rfl, by simp [yTmps, encP, h.size]⟩, trivial⟩
                  apply region_round hmix no_outgrown hr
                  case hnd => rfl
                  case hw =>
                    apply Walk.cons
                    · exact o_alloc31 9 rfl rfl
                    apply Walk.cons
                    · exact o_store31 rfl rfl rfl rfl rfl
                    exact Walk.nil _
                  case hck => kernel_rfl
                  case hQ =>
                    intro ρ' a' w' _ hr
                    refine Exit.then_normal ?_
                    exact hK a' w' (NK.of_below hr.lies) ((hr.turned 0).kept _) ⟨hp0, S23.abide (Nat.le_refl _) _ _ hS' (hr.turned _), hM'.step hr.lies⟩ ⟨ρ'.num 9, hr.size, hr.defers, hr.slots 3 _ rfl, hr.slots 9 _ rfl, (hr.mem 9 _ rfl).1⟩
                case hbody2 =>
                  intro l' pre x a' W' ⟨hp0, hS', hM'⟩ ⟨b9, hsz, hdf, h3, h9, h31⟩ hpx hsz'
                  subst hp0
                  have hx := prefix_get hpx
                  have hpl : 0 < L.length := (List.getElem?_eq_some_iff.1 hx).1
                  obtain ⟨g, rfl, hBg, _⟩ := hformv (by omega)
                  have hcr := row_cells hS'.rv hx
                  have hn := hwf x (List.mem_of_getElem? hx)
                  have hc9 : ∀ k, k < 18 → W'.cell? ⟨b9, 0 + k, none⟩ = (pfc x.v x.n x.b)[k]? := fun k hk => by rw [cell_of_obj (show hp W' b9 = _ from h31), Nat.zero_add]
                  have hcp : ∀ k, k < 18 → W'.cell? ⟨g, 0 + 0 * 19 + 0 + k, none⟩ = (pfc x.v x.n x.b)[k]? := fun k hk => by
                    have := hcr k (by omega)
                    simp only [List.length_nil] at this
                    rw [Nat.add_zero, this]
                    simpa using rwc_pfc x k hk
                  have hr := Rep.of_actD (N := 65) (a := a') W' hdf hsz [(3, .v (.pointer (some ⟨b3, 0, none⟩))), (9, .v (.pointer (some ⟨b9, 0, none⟩)))] ⟨⟨_, rfl, h3⟩, ⟨_, rfl, h9⟩, trivial⟩
                  refine wpIn_block (wpIn_seq (wpIn_seq ?_))
                  apply region_round hmix (fun ⟨_, _, h⟩ => h) hr
                  case hnd => rfl
                  case hw =>
                    apply Walk.cons
                    · exact ok_load_cell_ro rfl rfl rfl (fun h => h) one49 (hb_of hS'.c3)
                    apply Walk.cons
                    · exact ok_len_ro rfl rfl rfl Try.underlying49
                    apply Walk.cons
                    · exact o_bin rfl rfl rfl rfl (r_eqli (b := 0) (decide_eq_false (by omega)))
                    apply Walk.cons
                    · exact ok_move rfl rfl rfl
                    apply Walk.cons
                    · exact ok_load_cell_ro rfl rfl rfl (fun h => h) one49 (hb_of hS'.c3)
                    apply Walk.cons
                    · exact ok_index_slice_ro (k := .i64) (j := 0) rfl rfl rfl rfl Try.underlying49 sz76 hpl
                    apply Walk.cons
                    · exact ok_fld_v rfl rfl rfl fo76_0 rfl
                    apply Walk.cons
                    · exact ok_load_agg_ro rfl rfl rfl (fun h => h) agg31 sz31 rfl hcp
                    apply Walk.cons
                    · exact ok_load_agg_ro rfl rfl rfl (fun h => h) agg31 sz31 rfl hc9
                    apply Walk.cons
                    · exact o_neq31 rfl rfl rfl rfl hn hn (c := false) (by simp)
                    apply Walk.cons
                    · exact ok_pick_false rfl rfl rfl rfl
                    exact Walk.nil _
                  case hck => kernel_rfl
                  case hQ =>
                    intro ρ' a5 w5 _ hr
                    refine Exit.then_normal ?_
                    refine wpIn_cond_false (hr.eval_tmp (t := 54) rfl) (wpIn_skip ?_)
                    refine Exit.then_normal ?_
                    refine wpIn_exit ?_
                    exact ⟨NK.of_below hr.lies, rfl, S23.abide (Nat.le_refl _) _ _ hS' (hr.turned _), hM'.step hr.lies⟩
              · intro A5 w5 hKK
                rw [hK1] at hKK
                clear hK1 K1 hS hM h
                obtain ⟨Ds, ρ, hM, hS, h⟩ := hKK
                have hr := Rep.of_act1 (N := 65) (a := A5) w5 h.defers h.size 4 b4 hS.c4 [(0, .v (.pointer (some ⟨t, 0, none⟩))), (3, .v (.pointer (some ⟨b3, 0, none⟩))), (4, .p 4 0), (6, .v (.pointer (some ⟨b6, 0, none⟩)))] ⟨.inl ⟨_, rfl, h.slots 0 _ rfl⟩, .inl ⟨_, rfl, h.slots 3 _ rfl⟩, .inr ⟨0, rfl, h.slots 4 _ rfl⟩, .inl ⟨_, rfl, h.slots 6 _ rfl⟩, trivial⟩
                have hn3 := obj_ne hS.c3 hS.c4 (by decide)
                have hn6 := obj_ne hS.c6 hS.c4 (by decide)
                have hbl4 := hS.bel
                have hs4 := h.slots 4 _ rfl
                refine wp_seq ?_
                apply region_dag' hmix hr
                case hw =>
                  apply Walk.cons
                  · exact ok_load_cell_ro rfl rfl rfl hn6 one3 (hb_of hS.c6)
                  apply Walk.cons
                  · exact ok_load_cell_ro rfl rfl rfl hn3 one49 (hb_of hS.c3)
                  apply Walk.cons
                  · exact ok_len_ro rfl rfl rfl Try.underlying49
                  apply Walk.cons
                  · exact o_bin rfl rfl rfl rfl (r_eqli (decide_eq_true rfl))
                  apply Walk.cons
                  · exact ok_move rfl rfl rfl
                  apply Walk.cons
                  · first | exact ok_skip rfl | exact ok_skip_u rfl | exact ok_move rfl rfl rfl
                  apply Walk.cons
                  · exact ok_call_val rfl rfl fn12 [.v _] rfl (rd := []) (fun _ w' _ hk => hcnt ▸ len_any w' (M := M) ⟨ids, T, hI, rfl, fun n o hn => by
                      have h1 := hTl hbl4 n o hn
                      have h2 := lt_of_hp (hT n o hn)
                      exact (hk.block n (lt_of_hp h1) (show ¬ n = b4 from by omega)).trans h1⟩)
                  apply Walk.cons
                  · exact ok_load_cell_ro rfl rfl rfl hn6 one3 (hb_of hS.c6)
                  apply Walk.cons
                  · exact o_bin rfl rfl rfl rfl (r_eqli (decide_eq_true rfl))
                  apply Walk.cons
                  · exact ok_pick_true rfl rfl rfl rfl
                  apply Walk.cons
                  · exact ok_store_cell (cs := #[.bool true]) rfl rfl rfl rfl rfl sz4 rfl (by decide) rfl
                  exact Walk.nil _
                case hck => kernel_rfl
                case hQ =>
                  intro ρ A w6 hag hr
                  refine Exit.then_normal ?_
                  have hnum : ρ.num 4 = b4 := hag 4 _ rfl
                  have hbox := (hr.mem 4 _ rfl).1
                  rw [hnum] at hbox
                  have hs4 := hr.slots 4 _ rfl
                  rw [show (AV.p 4 0).to ρ = .pointer (some ⟨b4, 0, none⟩) from by rw [← hnum]; rfl] at hs4
                  have hstep : ∀ k o, w5.heap[k]? = some o → k ≠ b4 → w6.heap[k]? = some o := fun k o hk h2 => (hr.keeps.block k (lt_of_heap hk) h2).trans hk
                  refine wp_ret ?_
                  repeat (first | refine Exit.thenRet ?_ | refine Exit.blockRet ?_)
                  refine ret_marks (B := w.heap.size) Ds _ hr.defers (fun D' hD' => ⟨(hM.2 D' hD').1, hstep _ _ (hM.2 D' hD').2 (fun e => by have h9 := (hM.2 D' hD').2; rw [e, hS.c4] at h9; cases h9)⟩) hM.1 fun w7 ht => ?_
                  have hb7 := ht.same _ _ hbox (.inr rfl)
                  refine ⟨.bool true, by simp [results, Try.results23, hs4, asAddr, loadVar, run_isAgg_false one4, hb_of hb7], rfl, ?_⟩
                  refine abide_below w (Nat.le_refl _) _ _ ⟨hr.keeps.os.trans hS.bel.os, hr.keeps.tape.trans hS.bel.tape, hr.keeps.output.trans hS.bel.output, Nat.le_trans hS.bel.size hr.keeps.size, fun k hk => ?_⟩ ht
                  have e1 := hS.bel.block k hk
                  rw [Array.getElem?_eq_getElem hk] at e1 ⊢
                  exact hstep k _ e1 (by omega)
end Go.Proofs.Ytnppgaohfegloaa
