/-
  The walk of what All hands back: it goes over the rows of its slice.
-/
import Derived.Test.YtnppgaohfegloaaRowSet
namespace Go.Proofs.Ytnppgaohfegloaa
open Go.RowKit

theorem row_gen {w : World} {base : Nat} {e : TypeId} {v : Value} {n : Nat} {xs : List Value} (h : w.ownsRow base e 19 v n xs) :
    ∃ ad cap, v = .slice ad n cap ∧ (0 < n → ∃ g, ad = some ⟨g, 0, none⟩ ∧ base ≤ g ∧ ∀ j, j < n * 19 → w.cell? ⟨g, j, none⟩ = xs[j]?) := by
  rcases row_form h with ⟨rfl, rfl, rfl⟩ | ⟨g, cap, rfl, h1, _, _, h2⟩
  · exact ⟨none, 0, rfl, fun h => by omega⟩
  · exact ⟨_, cap, rfl, fun _ => ⟨g, rfl, h1, h2⟩⟩
theorem row_kept {kt : TypeId → Bool} {w w' : World} {base : Nat} {e : TypeId} {size : Nat} {v : Value} {n : Nat} {xs : List Value} (h : w.ownsRow base e size v n xs) (he : kt e = true) (ht : Kept kt w w') : w'.ownsRow base e size v n xs := by
  refine ⟨h.1, ?_⟩
  rcases h.2 with h2 | ⟨g, cap, cur, rfl, hb, hg, rest⟩
  · exact .inl h2
  · exact .inr ⟨g, cap, cur, rfl, hb, ht.2 _ _ _ he hg, rest⟩
def kt32 (ty : TypeId) : Bool := ty == 68 || ty == 73
def encP (x : RowR) : Array Value := #[.agg (pfc x.v x.n x.b), .int .i64 x.o]
theorem fo73_0 : fOff Try.prog 73 0 = some 0 := by kernel_rfl
theorem fo73_1 : fOff Try.prog 73 1 = some 18 := by kernel_rfl
theorem fo76_0 : fOff Try.prog 76 0 = some 0 := by kernel_rfl
theorem fo76_1 : fOff Try.prog 76 1 = some 18 := by kernel_rfl
theorem map_two {f : Operand → Value} {x y : Operand} {u v : Value} (h : f x = u) (h' : f y = v) : (#[x, y] : Array Operand).map f = #[u, v] := by simp [h, h']
theorem take_next {α : Type} {L : List α} {i : Nat} {x : α} (hx : L[i]? = some x) : L.take i ++ [x] = L.take (i + 1) := by
  rw [List.take_add_one, hx]
  rfl
set_option maxRecDepth 20000 in
set_option maxHeartbeats 4000000 in
theorem seq_iter {L : List RowR} (hL : L.length ≤ 1000) {bl B : Nat} {v : Value} (w0 : World) (hbox0 : w0.heap[bl]? = some (cobj #[v] 68)) (hown0 : w0.ownsRow B 73 19 v L.length (catR L)) :
    Iter Try.prog 32 #[.pointer (some ⟨bl, 0, none⟩)] encP kt32 L w0 := by
  intro l J Jx W hkept hJ hJx hY hj0
  have hown := row_kept hown0 rfl hkept
  have hbox := hkept.2 _ _ _ rfl hbox0
  obtain ⟨ad, cap, rfl, hform⟩ := row_gen hown
  have hcb : W.cell? ⟨bl, 0, none⟩ = some (.slice ad L.length cap) := by rw [cell_of_obj (show hp W bl = _ from hbox)]; rfl
  go_enter Try.func32, Try.ntmps32
  have h := Rep.start (N := 19) [.func (.yield l) #[] #[], .pointer (some ⟨bl, 0, none⟩)] [undef, undef, undef, undef, undef, undef, undef, undef, undef, undef, undef, undef, undef, undef, undef, undef, undef] W rfl
  apply seq_dag hmix h
  case hw =>
    apply Walk.cons
    · exact ok_load_cell_ro rfl rfl rfl (fun h => h) one68' hcb
    apply Walk.cons
    · exact ok_len_ro rfl rfl rfl Try.underlying68
    apply Walk.cons
    · exact ok_move rfl rfl rfl
    exact Walk.nil _
  case hck => kernel_rfl
  case hQ =>
    intro ρ A w1 h
    have hj := hJ [] _ _ hj0 (h.turned _)
    have hk := (h.turned 0).kept kt32
    have hs := h.lies.size
    have h := h.rebase [(0, .v (.func (.yield l) #[] #[])), (5, .v (.slice ad L.length cap)), (6, .v (.int .i64 L.length)), (7, .v (.int .i64 (0 : Nat)))] ⟨⟨_, rfl, _, rfl, rfl⟩, ⟨_, rfl, _, rfl, rfl⟩, ⟨_, rfl, _, rfl, rfl⟩, ⟨_, rfl, _, rfl, rfl⟩, trivial⟩
    refine wp_block ?_
    refine wp_loop_ghost (fun m' a w => ∃ i ρ, i + m' = L.length ∧ J (L.take i) w ∧ Kept kt32 W w ∧ Rep 19 ⟨[(0, .v (.func (.yield l) #[] #[])), (5, .v (.slice ad L.length cap)), (6, .v (.int .i64 L.length)), (7, .v (.int .i64 (i : Nat)))], []⟩ ρ { W := w } a w) L.length ⟨0, _, by omega, by simpa using hj, hk, h⟩ ?_
    clear h hj hk hs hcb hbox hj0
    rintro m' A2 w3 ⟨i, ρ, him, hj, hk, h⟩
    refine wp_seq ?_
    by_cases hi : i < L.length
    · obtain ⟨x, hx⟩ : ∃ x, L[i]? = some x := ⟨_, List.getElem?_eq_getElem hi⟩
      obtain ⟨g, rfl, hBg, hcells⟩ := hform (by omega)
      have hown3 := row_kept hown rfl hk
      have hpx : L.take i ++ [x] <+: L := by rw [take_next hx]; exact List.take_prefix _ _
      have hcr : ∀ k, k < 19 → w3.cell? ⟨g, 0 + i * 19 + k, none⟩ = (rwc x)[k]? := fun k hk' => by
        rcases row_form hown3 with ⟨h1, _⟩ | ⟨g', cap', h1, _, _, _, h2⟩
        · cases h1
        · cases h1
          have : i * 19 + k < L.length * 19 := by omega
          rw [Nat.zero_add, h2 _ this, catR_get hx hk']
      apply region_dag hmix h
      case hw =>
        apply Walk.cons
        · exact o_bin rfl rfl rfl rfl (r_lss (b := L.length) (decide_eq_true hi))
        exact Walk.nil _
      case hck => kernel_rfl
      case hQ =>
        intro ρ A w1 h
        refine Exit.then_normal ?_
        refine wp_seq ?_
        refine if_true' h rfl (wp_skip (Exit.then_normal ?_))
        refine wp_seq (wp_block ?_)
        apply seq_dag hmix h
        case hw =>
          apply Walk.cons
          · exact ok_index_slice_ro rfl rfl rfl rfl Try.underlying68 sz73 hi
          apply Walk.cons
          · exact ok_load_agg_ro rfl rfl rfl (fun h => h) agg73 sz73 rfl hcr
          apply Walk.cons
          · exact ok_alloc 4 rfl rfl zero73 (cs := rwc ⟨false, 0, 0, 0⟩) rfl
          apply Walk.cons
          · exact ok_store_whole rfl rfl rfl rfl rfl sz73 rfl (one_rwc x) rfl
          exact Walk.nil _
        case hck => kernel_rfl
        case hQ =>
          intro ρ A w1 h
          refine wp_seq ?_
          refine (wpIn_wide (n := 0)).1 (wpIn_region_lit (show wpListIn (FW none) 0 _ _ _ _ _ _ from ?_))
          refine wplI_step h rfl (ok_move rfl rfl rfl) rfl rfl rfl rfl ?_
          intro ρ A w5 h
          refine wplI_step h rfl (ok_fld rfl rfl rfl fo73_0 rfl) rfl rfl rfl rfl ?_
          intro ρ A w5 h
          refine wplI_step h rfl (ok_load_part rfl rfl rfl rfl agg31 sz31 rfl (rwc_pfc x)) rfl rfl rfl rfl ?_
          intro ρ A w5 h
          refine wplI_step h rfl (ok_fld rfl rfl rfl fo73_1 rfl) rfl rfl rfl rfl ?_
          intro ρ A w5 h
          refine wplI_step h rfl (ok_load_cell rfl rfl rfl rfl one3 (rwc_o x)) rfl rfl rfl rfl ?_
          intro ρ A w5 h
          have hj5 := hJ _ _ _ hj (h.turned _)
          have hk5 := hk.trans ((h.turned 0).kept _)
          have h := h.rebase [(0, .v (.func (.yield l) #[] #[])), (5, .v (.slice (some ⟨g, 0, none⟩) L.length cap)), (6, .v (.int .i64 L.length)), (7, .v (.int .i64 (i : Nat))), (11, .v (.func (.yield l) #[] #[])), (13, .v (.agg (pfc x.v x.n x.b))), (15, .v (.int .i64 x.o))] ⟨⟨_, rfl, _, rfl, rfl⟩, ⟨_, rfl, _, rfl, rfl⟩, ⟨_, rfl, _, rfl, rfl⟩, ⟨_, rfl, _, rfl, rfl⟩, ⟨_, rfl, _, rfl, rfl⟩, ⟨_, rfl, _, rfl, rfl⟩, ⟨_, rfl, _, rfl, rfl⟩, trivial⟩
          refine wpListIn_yes (want_spec (fun k _ av hk => h.slots k av hk) rfl) (oper_yield rfl (h.eval_tmp (t := 11) rfl) (vs := encP x) (map_two (h.eval_tmp (t := 13) rfl) (h.eval_tmp (t := 15) rfl)) (hY (L.take i) x w5 hj5 hpx hk5.1) ?_)
          rintro e w6 (⟨rfl, hj6, hk6, hn6⟩ | ⟨rfl, hjx6, hn6⟩)
          · refine ⟨true, rfl, ?_⟩
            have hr6 := h.yielded (d := 16) (by decide) true w6
            refine wplI_step hr6 rfl (ok_not rfl rfl rfl rfl) rfl rfl rfl rfl ?_
            intro ρ A w7 h
            refine wpListIn_nil ?_
            refine Exit.then_normal ?_
            refine if_false' h rfl (wp_skip ?_)
            repeat (first | refine Exit.block_normal ?_ | refine Exit.then_normal ?_)
            have hj7 := hJ _ _ _ hj6 (h.turned _)
            have hk7 := hk5.trans (hk6.trans ((h.turned 0).kept _))
            rw [take_next hx] at hj7
            have h := h.rebase [(0, .v (.func (.yield l) #[] #[])), (5, .v (.slice (some ⟨g, 0, none⟩) L.length cap)), (6, .v (.int .i64 L.length)), (7, .v (.int .i64 (i : Nat)))] ⟨⟨_, rfl, _, rfl, rfl⟩, ⟨_, rfl, _, rfl, rfl⟩, ⟨_, rfl, _, rfl, rfl⟩, ⟨_, rfl, _, rfl, rfl⟩, trivial⟩
            apply region_dag hmix h
            case hw =>
              apply Walk.cons
              · exact o_bin rfl rfl rfl rfl (r_addi (b := 1) (by omega))
              apply Walk.cons
              · exact ok_move rfl rfl rfl
              exact Walk.nil _
            case hck => kernel_rfl
            case hQ =>
              intro ρ A w1 h
              exact ⟨m' - 1, by omega, i + 1, _, by omega, hJ _ _ _ hj7 (h.turned _), hk7.trans ((h.turned 0).kept _), h.rebase _ ⟨⟨_, rfl, _, rfl, rfl⟩, ⟨_, rfl, _, rfl, rfl⟩, ⟨_, rfl, _, rfl, rfl⟩, ⟨_, rfl, _, rfl, rfl⟩, trivial⟩⟩
          · refine ⟨false, rfl, ?_⟩
            have hr6 := h.yielded (d := 16) (by decide) false w6
            refine wplI_step hr6 rfl (ok_not rfl rfl rfl rfl) rfl rfl rfl rfl ?_
            intro ρ A w7 h
            refine wpListIn_nil ?_
            refine Exit.then_normal ?_
            refine if_true' h rfl (wp_ret ?_)
            repeat (first | refine Exit.thenRet ?_ | refine Exit.blockRet ?_)
            exact ⟨h.defers, _, by simp [results, Try.results32]; rfl, ⟨_, rfl⟩, .inr ⟨_, hpx, hJx _ _ _ hjx6 (h.turned _)⟩⟩
    · obtain rfl : i = L.length := by omega
      apply region_dag hmix h
      case hw =>
        apply Walk.cons
        · exact o_bin rfl rfl rfl rfl (r_lss (b := L.length) (decide_eq_false hi))
        exact Walk.nil _
      case hck => kernel_rfl
      case hQ =>
        intro ρ A w1 h
        refine Exit.then_normal ?_
        refine wp_seq ?_
        refine if_false' h rfl (wp_exit ?_)
        repeat (first | refine Exit.thenExit ?_ | refine Exit.blockExitNe (by decide) ?_)
        refine Exit.blockExit ?_
        have hj := hJ _ _ _ hj (h.turned _)
        rw [List.take_length] at hj
        exact ⟨h.defers, _, by simp [results, Try.results32]; rfl, ⟨_, rfl⟩, .inl hj⟩
end Go.Proofs.Ytnppgaohfegloaa
