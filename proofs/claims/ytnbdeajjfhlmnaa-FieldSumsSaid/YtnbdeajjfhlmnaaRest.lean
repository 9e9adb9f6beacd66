/-
  aditref01.Rest: limbs of 16 bits, to the 32 bytes of what is left modulo 2^255 - 19.
-/
import Derived.Test.YtnbdeajjfhlmnaaRestN
namespace Go.Proofs.Ytnbdeajjfhlmnaa
open Go.RowKit

theorem r_sub16 {P : Program} {t : TypeId} {k : Nat} (h : k < 65536) (w : World) : (binOp .sub t (.int .i64 ((16 + k : Nat) : Int)) (.int .i64 ((16 : Nat) : Int))).run P w = .ok (.int .i64 k) w := by
  rw [r_subi (a := 16 + k) (b := 16) (by omega) (by omega), Nat.add_sub_cancel_left]
theorem r_leq {P : Program} {t : TypeId} {k : IntKind} {a b : Nat} {c : Bool} (h : decide (a ≤ b) = c) (w : World) : (binOp .leq t (.int k a) (.int k b)).run P w = .ok (.bool c) w := by
  subst h; simp [binOp, Op.intCmp]
theorem cells_icv {w : World} {b n L t : Nat} {f : Nat → Nat} (h : w.heap[b]? = some (Blk.obj ⟨icv f n, t⟩)) (hL : L ≤ n) : ∀ j, j < L → w.cell? ⟨b, 0 + j, none⟩ = some (.int .i64 (f j)) := fun j hj => by
  rw [cell_of_obj h, Nat.zero_add]
  exact icv_get f n j (by omega)
theorem fold_zero (f : Nat → Nat) : (fun k => if k < 16 then f k else (fun _ => 0) k) = foldF f 0 := by
  funext j
  simp [foldF]

theorem val16_lt {f : Nat → Nat} (hf : ∀ j, f j < 65536) (h15 : f 15 < 32768) : valN f 16 < 2 * pp := by
  have h1 := val16 f
  have h2 := valN_lt (f := fun j => f (1 + j)) 14 (fun j _ => hf (1 + j))
  have h0 := hf 0
  have p14 : (65536 : Nat) ^ 14 = 26959946667150639794667015087019630673637144422540572481103610249216 := by decide
  rw [p14] at h2
  rw [show mid f = valN (fun j => f (1 + j)) 14 from rfl, p15] at h1
  generalize valN f 16 = V at *
  generalize valN (fun j => f (1 + j)) 14 = m at *
  rw [pp_lit]
  omega
def restS (x : (Nat → Nat) × Nat × Nat) : St := ⟨[(0, .s 10 0 x.2.1 x.2.2), (2, .p 2 0)], [(2, ⟨bvc 0, 24⟩), (10, ⟨icv x.1 x.2.2, 3⟩)]⟩
def restI (V : Nat) (x : (Nat → Nat) × Nat × Nat) : Prop := 16 ≤ x.2.1 ∧ x.2.1 ≤ 32 ∧ x.2.1 ≤ x.2.2 ∧ (∀ j, x.1 j < 65536) ∧ valN x.1 x.2.1 % pp = V
def foldS (f : Nat → Nat) (len cap k : Nat) : St := ⟨[(0, .s 10 0 len cap), (2, .p 2 0), (3, .s 14 0 16 40), (4, .v (.int .i64 ((16 + k : Nat) : Int)))], [(2, ⟨bvc 0, 24⟩), (10, ⟨icv f cap, 3⟩), (14, ⟨icv (foldF f k) 40, 3⟩)]⟩
def topS (x : (Nat → Nat) × Nat) : St := ⟨[(0, .s 10 0 16 x.2), (2, .p 2 0)], [(2, ⟨bvc 0, 24⟩), (10, ⟨icv x.1 x.2, 3⟩)]⟩
def topI (V : Nat) (x : (Nat → Nat) × Nat) : Prop := 16 ≤ x.2 ∧ (∀ j, x.1 j < 65536) ∧ valN x.1 16 % pp = V
def subS48 (f : Nat → Nat) (cap k : Nat) : St := ⟨[(0, .s 10 0 16 cap), (2, .p 2 0), (6, .v (.int .i64 k))], [(2, ⟨bvc 0, 24⟩), (10, ⟨icv (subF f k) cap, 3⟩)]⟩
def outS (f : Nat → Nat) (cap k : Nat) : St := ⟨[(0, .s 10 0 16 cap), (2, .p 2 0), (7, .p 7 0), (8, .v (.int .i64 k))], [(2, ⟨bvc 0, 24⟩), (10, ⟨icv f cap, 3⟩), (7, ⟨bvc (outB f k), 24⟩)]⟩

set_option maxRecDepth 20000 in
set_option maxHeartbeats 2000000 in
theorem rest_any (f0 : Nat → Nat) (L0 cap0 g : Nat) (hL : 16 ≤ L0) (hL2 : L0 ≤ 32) (hf0 : ∀ j, j < L0 → f0 j < 1099511627776) (hV0 : valN f0 L0 < 65536 ^ 32) (w : World)
    (hc0 : ∀ j, j < L0 → w.cell? ⟨g, 0 + j, none⟩ = some (.int .i64 (f0 j))) :
    Calls Try.prog 48 #[.slice (some ⟨g, 0, none⟩) L0 cap0] w fun e w' => e = .returned (bv (valN f0 L0 % pp)) ∧ Below w.heap.size w w' := by
  have hlen := lenN_small hV0 hL2
  have hge0 := lenN_ge (cutL f0 L0) L0
  have hle0 := lenN_le (cutL f0 L0) L0
  have hdv := dig_val hf0
  go_enter Try.func48, Try.ntmps48
  have h := Rep.start (N := 115) [.slice (some ⟨g, 0, none⟩) L0 cap0] [undef, undef, undef, undef, undef, undef, undef, undef, undef, undef, undef, undef, undef, undef, undef, undef, undef, undef, undef, undef, undef, undef, undef, undef, undef, undef, undef, undef, undef, undef, undef, undef, undef, undef, undef, undef, undef, undef, undef, undef, undef, undef, undef, undef, undef, undef, undef, undef, undef, undef, undef, undef, undef, undef, undef, undef, undef, undef, undef, undef, undef, undef, undef, undef, undef, undef, undef, undef, undef, undef, undef, undef, undef, undef, undef, undef, undef, undef, undef, undef, undef, undef, undef, undef, undef, undef, undef, undef, undef, undef, undef, undef, undef, undef, undef, undef, undef, undef, undef, undef, undef, undef, undef, undef, undef, undef, undef, undef, undef, undef, undef, undef, undef, undef] w rfl
  apply seq_dag hmix h
  case hw =>
    apply Walk.cons
    · exact o_alloc24 2 rfl rfl
    exact Walk.nil _
  case hck => kernel_rfl
  case hQ =>
    intro ρ A w1 h
    apply seq_dag hmix h
    case hw =>
      apply Walk.cons
      · exact ok_move rfl rfl rfl
      apply Walk.cons
      · exact ok_call_new 10 rfl rfl fn56 [.v _] rfl (rd := []) (fun ρ w1 _ hk => carried_any f0 L0 cap0 g hL (by omega) hf0 w1 (fun j hj => (hk.cell (p := ⟨g, 0 + j, none⟩) (World.block_lt_of_cell? w _ (hc0 j hj)) (fun h => h)).trans (hc0 j hj)))
      apply Walk.cons
      · exact ok_assign rfl rfl rfl
      exact Walk.nil _
    case hck => kernel_rfl
    case hQ =>
      intro ρ A w1 h
      have h := h.plain (restS (digF (cutL f0 L0) (lenN (cutL f0 L0) L0), lenN (cutL f0 L0) L0, L0 + 4)) ⟨rfl, rfl, trivial⟩ ⟨rfl, rfl, trivial⟩ rfl
      have hI : restI (valN f0 L0 % pp) (digF (cutL f0 L0) (lenN (cutL f0 L0) L0), lenN (cutL f0 L0) L0, L0 + 4) :=
        ⟨by simp only; omega, by simp only; omega, by simp only; omega, digF_lt _ _, by simp only; rw [valN_digF, hdv]⟩
      generalize valN f0 L0 % pp = V at hI ⊢
      refine wp_seq (wp_block ?_)
      refine rep_loop_by (fun x => valN x.1 x.2.1 + x.2.1) restS (restI V) _ hI h ?_
      clear h hI
      rintro ⟨f, len, cap⟩ ρ A w2 ⟨h16, h32, hcap, hf, hV⟩ h
      simp only at h16 h32 hcap hf hV
      change Rep 115 ⟨[(0, .s 10 0 len cap), (2, .p 2 0)], [(2, ⟨bvc 0, 24⟩), (10, ⟨icv f cap, 3⟩)]⟩ _ _ _ _ at h
      by_cases hbig : 16 < len
      · refine wp_seq ?_
        apply seq_dag hmix h
        case hw =>
          apply Walk.cons
          · exact ok_move rfl rfl rfl
          apply Walk.cons
          · exact o_len46 rfl rfl rfl rfl
          apply Walk.cons
          · exact o_bin rfl rfl rfl rfl (r_gtr (a := len) (b := 16) (decide_eq_true hbig))
          exact Walk.nil _
        case hck => kernel_rfl
        case hQ =>
          intro ρ A w1 h
          refine if_true' h rfl (wp_skip ?_)
          refine Exit.then_normal ?_
          refine wp_block ?_
          apply seq_dag hmix h
          case hw =>
            apply Walk.cons
            · exact o_make 14 rfl rfl (l := 16) (c := 40) rfl rfl (by decide) (by decide) (by decide)
            apply Walk.cons
            · exact ok_assign rfl rfl rfl
            exact Walk.nil _
          case hck => kernel_rfl
          case hQ =>
            intro ρ A w1 h
            apply seq_dag hmix h
            case hw =>
              apply Walk.cons
              · exact ok_move rfl rfl rfl
              apply Walk.cons
              · exact ok_move rfl rfl rfl
              apply Walk.cons
              · exact o_head46 rfl rfl rfl (n := 16) rfl (by omega)
              apply Walk.cons
              · exact o_copy46 rfl rfl rfl rfl rfl rfl rfl (by decide) (by omega)
              exact Walk.nil _
            case hck => kernel_rfl
            case hQ =>
              intro ρ A w1 h
              refine wp_seq (wp_seq ?_)
              apply region_dag hmix h
              case hw =>
                apply Walk.cons
                · exact ok_assign rfl rfl rfl
                exact Walk.nil _
              case hck => kernel_rfl
              case hQ =>
                intro ρ A w1 h
                refine Exit.then_normal ?_
                have h := h.plain (foldS f len cap 0) ⟨rfl, rfl, rfl, rfl, trivial⟩ ⟨rfl, rfl, by rw [← fold_zero]; rfl, trivial⟩ rfl
                refine wp_block ?_
                refine rep_loop (len - 16) (foldS f len cap) h ?_
                intro k ρ A w3 hk h
                have hfk := foldF_lt hf k k
                have hfk2 := hf (16 + k)
                by_cases hlt : k < len - 16
                · refine wp_seq ?_
                  apply seq_dag hmix h
                  case hw =>
                    apply Walk.cons
                    · exact ok_move rfl rfl rfl
                    apply Walk.cons
                    · exact ok_move rfl rfl rfl
                    apply Walk.cons
                    · exact o_len46 rfl rfl rfl rfl
                    apply Walk.cons
                    · exact o_bin rfl rfl rfl rfl (r_lss (a := 16 + k) (b := len) (decide_eq_true (by omega)))
                    exact Walk.nil _
                  case hck => kernel_rfl
                  case hQ =>
                    intro ρ A w1 h
                    refine if_true' h rfl (wp_skip ?_)
                    refine Exit.then_normal ?_
                    refine wp_seq (wp_block ?_)
                    apply seq_dag hmix h
                    case hw =>
                      apply Walk.cons
                      · exact ok_move rfl rfl rfl
                      apply Walk.cons
                      · exact o_bin rfl rfl rfl rfl (r_sub16 (k := k) (by omega))
                      apply Walk.cons
                      · exact ok_assign rfl rfl rfl
                      exact Walk.nil _
                    case hck => kernel_rfl
                    case hQ =>
                      intro ρ A w1 h
                      refine wp_seq (wp_block ?_)
                      refine rep_loop 0 (fun _ => ⟨[(0, .s 10 0 len cap), (2, .p 2 0), (3, .s 14 0 16 40), (4, .v (.int .i64 ((16 + k : Nat) : Int))), (5, .v (.int .i64 k))], [(2, ⟨bvc 0, 24⟩), (10, ⟨icv f cap, 3⟩), (14, ⟨icv (foldF f k) 40, 3⟩)]⟩) (h.plain _ ⟨rfl, rfl, rfl, rfl, rfl, trivial⟩ ⟨rfl, rfl, rfl, trivial⟩ rfl) ?_
                      intro _ ρ A w4 _ h
                      refine wp_seq ?_
                      apply seq_dag hmix h
                      case hw =>
                        apply Walk.cons
                        · exact ok_move rfl rfl rfl
                        apply Walk.cons
                        · exact o_len46 rfl rfl rfl rfl
                        apply Walk.cons
                        · exact ok_move rfl rfl rfl
                        apply Walk.cons
                        · exact o_bin rfl rfl rfl rfl (r_leq (a := 16) (b := k) (decide_eq_false (by omega)))
                        exact Walk.nil _
                      case hck => kernel_rfl
                      case hQ =>
                        intro ρ A w1 h
                        refine if_false' h rfl (wp_exit (at_exit' ?_))
                        refine Exit.then_normal ?_
                        apply region_dag hmix h
                        case hw =>
                          apply Walk.cons
                          · exact ok_move rfl rfl rfl
                          apply Walk.cons
                          · exact ok_move rfl rfl rfl
                          apply Walk.cons
                          · exact ok_move rfl rfl rfl
                          apply Walk.cons
                          · exact ok_move rfl rfl rfl
                          apply Walk.cons
                          · exact o_at46z rfl rfl rfl rfl (j := k) (by omega)
                          apply Walk.cons
                          · exact o_load3 rfl rfl rfl rfl (by omega)
                          apply Walk.cons
                          · exact ok_move rfl rfl rfl
                          apply Walk.cons
                          · exact ok_move rfl rfl rfl
                          apply Walk.cons
                          · exact o_at46z rfl rfl rfl rfl (j := 16 + k) (by omega)
                          apply Walk.cons
                          · exact o_load3 rfl rfl rfl rfl (by omega)
                          apply Walk.cons
                          · exact o_bin rfl rfl rfl rfl (r_muli (a := 38) (b := f (16 + k)) (by omega))
                          apply Walk.cons
                          · exact o_bin rfl rfl rfl rfl (r_addi (a := foldF f k k) (b := 38 * f (16 + k)) (by omega))
                          apply Walk.cons
                          · exact o_at46z rfl rfl rfl rfl (j := k) (by omega)
                          apply Walk.cons
                          · exact o_store3 rfl rfl rfl rfl rfl (j := k) (by omega)
                          exact Walk.nil _
                        case hck => kernel_rfl
                        case hQ =>
                          intro ρ A w1 h
                          refine Exit.block_normal (Exit.then_normal ?_)
                          apply region_dag hmix h
                          case hw =>
                            apply Walk.cons
                            · exact ok_move rfl rfl rfl
                            apply Walk.cons
                            · exact o_bin rfl rfl rfl rfl (r_addi (a := 16 + k) (b := 1) (by omega))
                            apply Walk.cons
                            · exact ok_assign rfl rfl rfl
                            exact Walk.nil _
                          case hck => kernel_rfl
                          case hQ =>
                            intro ρ A w1 h
                            exact ⟨_, hlt, h.plain (foldS f len cap (k + 1)) ⟨rfl, rfl, rfl, rfl, trivial⟩ ⟨rfl, rfl, by rw [← foldF_step f k (by omega)]; rfl, trivial⟩ rfl⟩
                · obtain rfl : k = len - 16 := by omega
                  refine wp_seq ?_
                  apply seq_dag hmix h
                  case hw =>
                    apply Walk.cons
                    · exact ok_move rfl rfl rfl
                    apply Walk.cons
                    · exact ok_move rfl rfl rfl
                    apply Walk.cons
                    · exact o_len46 rfl rfl rfl rfl
                    apply Walk.cons
                    · exact o_bin rfl rfl rfl rfl (r_lss (a := 16 + (len - 16)) (b := len) (decide_eq_false (by omega)))
                    exact Walk.nil _
                  case hck => kernel_rfl
                  case hQ =>
                    intro ρ A w1 h
                    refine if_false' h rfl (wp_exit (at_exit' ?_))
                    refine Exit.then_normal ?_
                    have h := h.plain ⟨[(2, .p 2 0), (3, .s 14 0 16 40)], [(2, ⟨bvc 0, 24⟩), (14, ⟨icv (foldF f (len - 16)) 40, 3⟩)]⟩ ⟨rfl, rfl, trivial⟩ ⟨rfl, rfl, trivial⟩ rfl
                    have hn16 : len - 16 ≤ 16 := by omega
                    have hless := fold_less hf hn16 (by omega)
                    have hmod := fold_mod (f := f) hn16
                    rw [show 16 + (len - 16) = len by omega] at hless hmod
                    have hfl : ∀ j, j < 16 → foldF f (len - 16) j < 1099511627776 := fun j _ => Nat.lt_trans (foldF_lt hf _ _) (by decide)
                    generalize foldF f (len - 16) = q at h hless hmod hfl
                    have hdq := dig_val hfl
                    have hq1 := lenN_ge (cutL q 16) 16
                    have hq2 := lenN_le (cutL q 16) 16
                    apply region_dag hmix h
                    case hw =>
                      apply Walk.cons
                      · exact ok_move rfl rfl rfl
                      apply Walk.cons
                      · exact ok_call_new 10 rfl rfl fn56 [.s 14 0 16 40] rfl (rd := [14]) (fun ρ w1 hm _ => carried_any q 16 40 (ρ 14) (by decide) (by decide) hfl w1 (cells_icv (hm 14 (by simp) _ rfl) (by decide)))
                      apply Walk.cons
                      · exact ok_assign rfl rfl rfl
                      exact Walk.nil _
                    case hck => kernel_rfl
                    case hQ =>
                      intro ρ A w1 h
                      refine Exit.block_normal ?_
                      exact ⟨(digF (cutL q 16) (lenN (cutL q 16) 16), lenN (cutL q 16) 16, 20), _, by simp only; rw [valN_digF, hdq]; exact hless, ⟨hq1, by simp only; omega, by simp only; omega, digF_lt _ _, by simp only; rw [valN_digF, hdq, hmod, hV]⟩, h.plain (restS (digF (cutL q 16) (lenN (cutL q 16) 16), lenN (cutL q 16) 16, 20)) ⟨rfl, rfl, trivial⟩ ⟨rfl, rfl, trivial⟩ rfl⟩
      · obtain rfl : len = 16 := by omega
        refine wp_seq ?_
        apply seq_dag hmix h
        case hw =>
          apply Walk.cons
          · exact ok_move rfl rfl rfl
          apply Walk.cons
          · exact o_len46 rfl rfl rfl rfl
          apply Walk.cons
          · exact o_bin rfl rfl rfl rfl (r_gtr (a := 16) (b := 16) (decide_eq_false (by decide)))
          exact Walk.nil _
        case hck => kernel_rfl
        case hQ =>
          intro ρ A w1 h
          refine if_false' h rfl (wp_exit (at_exit' ?_))
          refine Exit.then_normal ?_
          have h := h.plain (topS (f, cap)) ⟨rfl, rfl, trivial⟩ ⟨rfl, rfl, trivial⟩ rfl
          have hI : topI V (f, cap) := ⟨hcap, hf, hV⟩
          refine wp_seq (wp_block ?_)
          refine rep_loop_by (fun x => valN x.1 16) topS (topI V) _ hI h ?_
          clear h hI
          rintro ⟨f, cap⟩ ρ A w2 ⟨hcap, hf, hV⟩ h
          simp only at hcap hf hV
          change Rep 115 ⟨[(0, .s 10 0 16 cap), (2, .p 2 0)], [(2, ⟨bvc 0, 24⟩), (10, ⟨icv f cap, 3⟩)]⟩ _ _ _ _ at h
          have hf15 := hf 15
          have hf00 := hf 0
          by_cases h15 : f 15 ≥ 32768
          · refine wp_seq ?_
            apply seq_dag hmix h
            case hw =>
              apply Walk.cons
              · exact ok_move rfl rfl rfl
              apply Walk.cons
              · exact o_at46z rfl rfl rfl rfl (j := 15) (by decide)
              apply Walk.cons
              · exact o_load3 rfl rfl rfl rfl (by omega)
              apply Walk.cons
              · exact o_bin rfl rfl rfl rfl (r_geq (a := f 15) (b := 32768) (decide_eq_true h15))
              exact Walk.nil _
            case hck => kernel_rfl
            case hQ =>
              intro ρ A w1 h
              refine if_true' h rfl (wp_skip ?_)
              refine Exit.then_normal ?_
              refine wp_block ?_
              apply seq_dag hmix h
              case hw =>
                apply Walk.cons
                · exact ok_move rfl rfl rfl
                apply Walk.cons
                · exact ok_move rfl rfl rfl
                apply Walk.cons
                · exact o_at46z rfl rfl rfl rfl (j := 0) (by decide)
                apply Walk.cons
                · exact o_load3 rfl rfl rfl rfl (by omega)
                apply Walk.cons
                · exact ok_move rfl rfl rfl
                apply Walk.cons
                · exact o_at46z rfl rfl rfl rfl (j := 15) (by decide)
                apply Walk.cons
                · exact o_load3 rfl rfl rfl rfl (by omega)
                apply Walk.cons
                · exact o_bin rfl rfl rfl rfl (r_quoi (a := f 15) (b := 32768) (by decide) (by omega))
                apply Walk.cons
                · exact o_bin rfl rfl rfl rfl (r_muli (a := 19) (b := f 15 / 32768) (by omega))
                apply Walk.cons
                · exact o_bin rfl rfl rfl rfl (r_addi (a := f 0) (b := 19 * (f 15 / 32768)) (by omega))
                apply Walk.cons
                · exact o_at46z rfl rfl rfl rfl (j := 0) (by decide)
                apply Walk.cons
                · exact o_store3 rfl rfl rfl rfl rfl (j := 0) (by omega)
                exact Walk.nil _
              case hck => kernel_rfl
              case hQ =>
                intro ρ A w1 h
                apply seq_dag hmix h
                case hw =>
                  apply Walk.cons
                  · exact ok_move rfl rfl rfl
                  apply Walk.cons
                  · exact ok_move rfl rfl rfl
                  apply Walk.cons
                  · exact o_at46z rfl rfl rfl rfl (j := 15) (by decide)
                  apply Walk.cons
                  · exact o_load3 rfl rfl rfl rfl (j := 15) (by omega)
                  apply Walk.cons
                  · exact o_bin rfl rfl rfl rfl (r_remi (a := f 15) (b := 32768) (by decide))
                  apply Walk.cons
                  · exact o_at46z rfl rfl rfl rfl (j := 15) (by decide)
                  apply Walk.cons
                  · exact o_store3 rfl rfl rfl rfl rfl (j := 15) (by omega)
                  exact Walk.nil _
                case hck => kernel_rfl
                case hQ =>
                  intro ρ A w1 h
                  have h := h.plain (topS (topF f, cap)) ⟨rfl, rfl, trivial⟩ ⟨rfl, rfl, trivial⟩ rfl
                  have htv := top_val f
                  have htl := top_lt hf
                  have hq1 : 1 ≤ f 15 / 32768 := by omega
                  have hlt16 := valN_lt (f := f) 16 (fun j _ => hf j)
                  have hlow : valN (topF f) 16 < valN f 16 := by have := Nat.mul_le_mul_left pp hq1; have h0 : 0 < pp := by decide
                                                                 omega
                  have hmod : valN (topF f) 16 % pp = V := by rw [← hV, ← htv, Nat.add_mul_mod_self_left]
                  generalize topF f = q at h htv htl hlow hmod
                  have hdq := dig_val (f := q) (L := 16) (fun j _ => htl j)
                  have hR : lenN (cutL q 16) 16 = 16 := Nat.le_antisymm (lenN_small (Nat.lt_trans hlow hlt16) (Nat.le_refl _)) (lenN_ge _ _)
                  apply region_dag hmix h
                  case hw =>
                    apply Walk.cons
                    · exact ok_move rfl rfl rfl
                    apply Walk.cons
                    · exact ok_call_new 71 rfl rfl fn56 [.s 10 0 16 cap] rfl (rd := [10]) (fun ρ w1 hm _ => carried_any q 16 cap (ρ 10) (by decide) (by decide) (fun j _ => htl j) w1 (cells_icv (hm 10 (by simp) _ rfl) hcap))
                    apply Walk.cons
                    · exact ok_assign rfl rfl rfl
                    exact Walk.nil _
                  case hck => kernel_rfl
                  case hQ =>
                    intro ρ A w1 h
                    refine Exit.block_normal ?_
                    have h := h.plain ⟨[(0, .s 71 0 (lenN (cutL q 16) 16) 20), (2, .p 2 0)], [(2, ⟨bvc 0, 24⟩), (71, ⟨icv (digF (cutL q 16) (lenN (cutL q 16) 16)) 20, 3⟩)]⟩ ⟨rfl, rfl, trivial⟩ ⟨rfl, rfl, trivial⟩ rfl
                    rw [hR] at h hdq
                    have h := h.ren (fun i => if i = 10 then 71 else i) (topS (digF (cutL q 16) 16, 20)) ⟨rfl, rfl, trivial⟩ ⟨rfl, rfl, trivial⟩ rfl rfl
                    exact ⟨(digF (cutL q 16) 16, 20), _, by simp only; rw [valN_digF, hdq]; exact hlow, ⟨by simp only; omega, digF_lt _ _, by simp only; rw [valN_digF, hdq, hmod]⟩, h⟩
          · refine wp_seq ?_
            apply seq_dag hmix h
            case hw =>
              apply Walk.cons
              · exact ok_move rfl rfl rfl
              apply Walk.cons
              · exact o_at46z rfl rfl rfl rfl (j := 15) (by decide)
              apply Walk.cons
              · exact o_load3 rfl rfl rfl rfl (by omega)
              apply Walk.cons
              · exact o_bin rfl rfl rfl rfl (r_geq (a := f 15) (b := 32768) (decide_eq_false h15))
              exact Walk.nil _
            case hck => kernel_rfl
            case hQ =>
              intro ρ A w1 h
              refine if_false' h rfl (wp_exit (at_exit' ?_))
              refine Exit.then_normal ?_
              have h := h.plain (topS (f, cap)) ⟨rfl, rfl, trivial⟩ ⟨rfl, rfl, trivial⟩ rfl
              have hgi := ge_iff hf (by omega)
              have hlt255 : valN f 16 < 2 * pp := by
                have := val16_lt hf (by omega)
                exact this
              refine wp_seq (wp_mono (Q := fun e a1 w1 => e = .normal ∧ ∃ f1 ρ1, (∀ j, f1 j < 65536) ∧ valN f1 16 = V ∧ Rep 115 (topS (f1, cap)) ρ1 { W := w } a1 w1) ?_ ?_)
              · cases hge : geP f with
                | true =>
                  have hpv : pp ≤ valN f 16 := by rw [hge] at hgi; exact of_decide_eq_true hgi.symm
                  apply seq_dag hmix h
                  case hw =>
                    apply Walk.cons
                    · exact ok_move rfl rfl rfl
                    apply Walk.cons
                    · exact ok_call_val rfl rfl fn57 [.s 10 0 16 cap] rfl (v := .bool true) (rd := [10]) (fun ρ w1 hm _ => by rw [← hge]; exact atLeast_any f 16 cap (ρ 10) (by decide) w1 (cells_icv (hm 10 (by simp) _ rfl) hcap))
                    exact Walk.nil _
                  case hck => kernel_rfl
                  case hQ =>
                    intro ρ A w1 h
                    refine if_true' h rfl ?_
                    apply seq_dag hmix h
                    case hw =>
                      apply Walk.cons
                      · exact ok_assign rfl rfl rfl
                      exact Walk.nil _
                    case hck => kernel_rfl
                    case hQ =>
                      intro ρ A w1 h
                      have h := h.plain (subS48 f cap 0) ⟨rfl, rfl, rfl, trivial⟩ ⟨rfl, by rw [subF_zero]; rfl, trivial⟩ rfl
                      refine wp_block ?_
                      refine rep_loop 16 (subS48 f cap) h ?_
                      intro k ρ A w3 hk h
                      by_cases hlt : k < 16
                      · by_cases hk0 : k = 0
                        · subst hk0
                          have hg0 : subF f 0 0 ≥ 65517 := by rw [subF_zero]; simp only [geP, Bool.and_eq_true, decide_eq_true_eq] at hge; exact hge.2.2
                          have hg1 : subF f 0 0 < 65536 := by rw [subF_zero]; exact hf00
                          refine wp_seq ?_
                          apply seq_dag hmix h
                          case hw =>
                            apply Walk.cons
                            · exact ok_move rfl rfl rfl
                            apply Walk.cons
                            · exact o_bin rfl rfl rfl rfl (r_lss (a := 0) (b := 16) (decide_eq_true hlt))
                            exact Walk.nil _
                          case hck => kernel_rfl
                          case hQ =>
                            intro ρ A w1 h
                            refine if_true' h rfl (wp_skip ?_)
                            refine Exit.then_normal ?_
                            refine wp_seq (wp_block ?_)
                            apply seq_dag hmix h
                            case hw =>
                              apply Walk.cons
                              · exact ok_move rfl rfl rfl
                              apply Walk.cons
                              · exact o_bin rfl rfl rfl rfl (r_eqli (a := 0) (b := 0) (decide_eq_true rfl))
                              exact Walk.nil _
                            case hck => kernel_rfl
                            case hQ =>
                              intro ρ A w1 h
                              refine if_true' h rfl ?_
                              apply region_dag hmix h
                              case hw =>
                                apply Walk.cons
                                · exact ok_move rfl rfl rfl
                                apply Walk.cons
                                · exact ok_move rfl rfl rfl
                                apply Walk.cons
                                · exact ok_move rfl rfl rfl
                                apply Walk.cons
                                · exact ok_move rfl rfl rfl
                                apply Walk.cons
                                · exact o_at46z rfl rfl rfl rfl (j := 0) (by decide)
                                apply Walk.cons
                                · exact o_load3 rfl rfl rfl rfl (by omega)
                                apply Walk.cons
                                · exact o_bin rfl rfl rfl rfl (r_subi (a := subF f 0 0) (b := 65517) hg0 (by omega))
                                apply Walk.cons
                                · exact o_at46z rfl rfl rfl rfl (j := 0) (by decide)
                                apply Walk.cons
                                · exact o_store3 rfl rfl rfl rfl rfl (j := 0) (by omega)
                                exact Walk.nil _
                              case hck => kernel_rfl
                              case hQ =>
                                intro ρ A w1 h
                                refine Exit.block_normal (Exit.then_normal ?_)
                                apply region_dag hmix h
                                case hw =>
                                  apply Walk.cons
                                  · exact ok_move rfl rfl rfl
                                  apply Walk.cons
                                  · exact o_bin rfl rfl rfl rfl (r_addi (a := 0) (b := 1) (by omega))
                                  apply Walk.cons
                                  · exact ok_assign rfl rfl rfl
                                  exact Walk.nil _
                                case hck => kernel_rfl
                                case hQ =>
                                  intro ρ A w1 h
                                  exact ⟨_, hlt, h.plain (subS48 f cap 1) ⟨rfl, rfl, rfl, trivial⟩ ⟨rfl, by rw [← subF_first]; rfl, trivial⟩ rfl⟩
                        · refine wp_seq ?_
                          apply seq_dag hmix h
                          case hw =>
                            apply Walk.cons
                            · exact ok_move rfl rfl rfl
                            apply Walk.cons
                            · exact o_bin rfl rfl rfl rfl (r_lss (a := k) (b := 16) (decide_eq_true hlt))
                            exact Walk.nil _
                          case hck => kernel_rfl
                          case hQ =>
                            intro ρ A w1 h
                            refine if_true' h rfl (wp_skip ?_)
                            refine Exit.then_normal ?_
                            refine wp_seq (wp_block ?_)
                            apply seq_dag hmix h
                            case hw =>
                              apply Walk.cons
                              · exact ok_move rfl rfl rfl
                              apply Walk.cons
                              · exact o_bin rfl rfl rfl rfl (r_eqli (a := k) (b := 0) (decide_eq_false hk0))
                              exact Walk.nil _
                            case hck => kernel_rfl
                            case hQ =>
                              intro ρ A w1 h
                              refine if_false' h rfl ?_
                              apply region_dag hmix h
                              case hw =>
                                apply Walk.cons
                                · exact ok_move rfl rfl rfl
                                apply Walk.cons
                                · exact ok_move rfl rfl rfl
                                apply Walk.cons
                                · exact o_at46z rfl rfl rfl rfl (j := k) (by omega)
                                apply Walk.cons
                                · exact o_store3 rfl rfl rfl (v := 0) rfl rfl (j := k) (by omega)
                                exact Walk.nil _
                              case hck => kernel_rfl
                              case hQ =>
                                intro ρ A w1 h
                                refine Exit.block_normal (Exit.then_normal ?_)
                                apply region_dag hmix h
                                case hw =>
                                  apply Walk.cons
                                  · exact ok_move rfl rfl rfl
                                  apply Walk.cons
                                  · exact o_bin rfl rfl rfl rfl (r_addi (a := k) (b := 1) (by omega))
                                  apply Walk.cons
                                  · exact ok_assign rfl rfl rfl
                                  exact Walk.nil _
                                case hck => kernel_rfl
                                case hQ =>
                                  intro ρ A w1 h
                                  exact ⟨_, hlt, h.plain (subS48 f cap (k + 1)) ⟨rfl, rfl, rfl, trivial⟩ ⟨rfl, by rw [← subF_step f k hk0]; rfl, trivial⟩ rfl⟩
                      · obtain rfl : k = 16 := by omega
                        refine wp_seq ?_
                        apply seq_dag hmix h
                        case hw =>
                          apply Walk.cons
                          · exact ok_move rfl rfl rfl
                          apply Walk.cons
                          · exact o_bin rfl rfl rfl rfl (r_lss (a := 16) (b := 16) (decide_eq_false hlt))
                          exact Walk.nil _
                        case hck => kernel_rfl
                        case hQ =>
                          intro ρ A w1 h
                          refine if_false' h rfl (wp_exit (at_exit' ?_))
                          refine ⟨rfl, subF f 16, _, fun j => ?_, ?_, h.plain (topS (subF f 16, cap)) ⟨rfl, rfl, trivial⟩ ⟨rfl, rfl, trivial⟩ rfl⟩
                          · have := hf j
                            simp only [subF]
                            split
                            · split <;> omega
                            · omega
                          · rw [subF_val hge, ← hV, Nat.mod_eq_sub_mod hpv, Nat.mod_eq_of_lt (by omega)]
                | false =>
                  have hpv : valN f 16 < pp := by rw [hge] at hgi; exact Nat.lt_of_not_le (of_decide_eq_false hgi.symm)
                  apply seq_dag hmix h
                  case hw =>
                    apply Walk.cons
                    · exact ok_move rfl rfl rfl
                    apply Walk.cons
                    · exact ok_call_val rfl rfl fn57 [.s 10 0 16 cap] rfl (v := .bool false) (rd := [10]) (fun ρ w1 hm _ => by rw [← hge]; exact atLeast_any f 16 cap (ρ 10) (by decide) w1 (cells_icv (hm 10 (by simp) _ rfl) hcap))
                    exact Walk.nil _
                  case hck => kernel_rfl
                  case hQ =>
                    intro ρ A w1 h
                    refine if_false' h rfl (wp_skip ?_)
                    exact ⟨rfl, f, _, hf, by rw [← hV, Nat.mod_eq_of_lt hpv], h.plain (topS (f, cap)) ⟨rfl, rfl, trivial⟩ ⟨rfl, rfl, trivial⟩ rfl⟩
              · rintro e a1 w1 ⟨rfl, f1, ρ1, hf1, hV1, h⟩
                refine Exit.then_normal ?_
                apply seq_dag hmix h
                case hw =>
                  apply Walk.cons
                  · exact o_alloc24 7 rfl rfl
                  exact Walk.nil _
                case hck => kernel_rfl
                case hQ =>
                  intro ρ A w1 h
                  refine wp_seq ?_
                  apply seq_dag hmix h
                  case hw =>
                    apply Walk.cons
                    · exact ok_assign rfl rfl rfl
                    exact Walk.nil _
                  case hck => kernel_rfl
                  case hQ =>
                    intro ρ A w1 h
                    have h := h.plain (outS f1 cap 0) ⟨rfl, rfl, rfl, rfl, trivial⟩ ⟨rfl, rfl, rfl, trivial⟩ rfl
                    refine wp_block ?_
                    refine rep_loop 16 (outS f1 cap) h ?_
                    intro k ρ A w3 hk h
                    have hfk := hf1 k
                    by_cases hlt : k < 16
                    · refine wp_seq ?_
                      apply seq_dag hmix h
                      case hw =>
                        apply Walk.cons
                        · exact ok_move rfl rfl rfl
                        apply Walk.cons
                        · exact o_bin rfl rfl rfl rfl (r_lss (a := k) (b := 16) (decide_eq_true hlt))
                        exact Walk.nil _
                      case hck => kernel_rfl
                      case hQ =>
                        intro ρ A w1 h
                        refine if_true' h rfl (wp_skip ?_)
                        refine Exit.then_normal ?_
                        refine wp_seq (wp_block ?_)
                        apply seq_dag hmix h
                        case hw =>
                          apply Walk.cons
                          · exact ok_move rfl rfl rfl
                          apply Walk.cons
                          · exact o_bin rfl rfl rfl rfl (r_muli (a := 2) (b := k) (by omega))
                          apply Walk.cons
                          · exact ok_move rfl rfl rfl
                          apply Walk.cons
                          · exact ok_move rfl rfl rfl
                          apply Walk.cons
                          · exact o_at46z rfl rfl rfl rfl (j := k) (by omega)
                          apply Walk.cons
                          · exact o_load3 rfl rfl rfl rfl (by omega)
                          apply Walk.cons
                          · exact o_bin rfl rfl rfl rfl (r_remi (a := f1 k) (b := 256) (by decide))
                          apply Walk.cons
                          · exact o_conv rfl rfl rfl (by kernel_rfl) Try.underlying5 (u8_small (x := f1 k % 256) (Nat.mod_lt _ (by decide)))
                          apply Walk.cons
                          · exact o_at24 rfl rfl rfl rfl (j := 2 * k) (by omega)
                          apply Walk.cons
                          · exact o_store5 rfl rfl rfl rfl rfl (k := 2 * k) (by omega) (Nat.mod_lt _ (by decide))
                          exact Walk.nil _
                        case hck => kernel_rfl
                        case hQ =>
                          intro ρ A w1 h
                          apply region_dag hmix h
                          case hw =>
                            apply Walk.cons
                            · exact ok_move rfl rfl rfl
                            apply Walk.cons
                            · exact o_bin rfl rfl rfl rfl (r_muli (a := 2) (b := k) (by omega))
                            apply Walk.cons
                            · exact o_bin rfl rfl rfl rfl (r_addi (a := 2 * k) (b := 1) (by omega))
                            apply Walk.cons
                            · exact ok_move rfl rfl rfl
                            apply Walk.cons
                            · exact ok_move rfl rfl rfl
                            apply Walk.cons
                            · exact o_at46z rfl rfl rfl rfl (j := k) (by omega)
                            apply Walk.cons
                            · exact o_load3 rfl rfl rfl rfl (by omega)
                            apply Walk.cons
                            · exact o_bin rfl rfl rfl rfl (r_quoi (a := f1 k) (b := 256) (by decide) (by omega))
                            apply Walk.cons
                            · exact o_conv rfl rfl rfl (by kernel_rfl) Try.underlying5 (u8_small (x := f1 k / 256) (by omega))
                            apply Walk.cons
                            · exact o_at24 rfl rfl rfl rfl (j := 2 * k + 1) (by omega)
                            apply Walk.cons
                            · exact o_store5 rfl rfl rfl rfl rfl (k := 2 * k + 1) (by omega) (by omega)
                            exact Walk.nil _
                          case hck => kernel_rfl
                          case hQ =>
                            intro ρ A w1 h
                            refine Exit.block_normal (Exit.then_normal ?_)
                            apply region_dag hmix h
                            case hw =>
                              apply Walk.cons
                              · exact ok_move rfl rfl rfl
                              apply Walk.cons
                              · exact o_bin rfl rfl rfl rfl (r_addi (a := k) (b := 1) (by omega))
                              apply Walk.cons
                              · exact ok_assign rfl rfl rfl
                              exact Walk.nil _
                            case hck => kernel_rfl
                            case hQ =>
                              intro ρ A w1 h
                              exact ⟨_, hlt, h.plain (outS f1 cap (k + 1)) ⟨rfl, rfl, rfl, rfl, trivial⟩ ⟨rfl, rfl, rfl, trivial⟩ rfl⟩
                    · obtain rfl : k = 16 := by omega
                      refine wp_seq ?_
                      apply seq_dag hmix h
                      case hw =>
                        apply Walk.cons
                        · exact ok_move rfl rfl rfl
                        apply Walk.cons
                        · exact o_bin rfl rfl rfl rfl (r_lss (a := 16) (b := 16) (decide_eq_false hlt))
                        exact Walk.nil _
                      case hck => kernel_rfl
                      case hQ =>
                        intro ρ A w1 h
                        refine if_false' h rfl (wp_exit (at_exit' ?_))
                        refine Exit.then_normal ?_
                        apply seq_dag hmix h
                        case hw =>
                          apply Walk.cons
                          · exact o_load24 rfl rfl rfl rfl
                          apply Walk.cons
                          · exact o_store24 rfl rfl rfl rfl rfl
                          exact Walk.nil _
                        case hck => kernel_rfl
                        case hQ =>
                          intro ρ A w1 h
                          refine wp_ret ?_
                          exact h.result24 Try.results48 rfl rfl ⟨by rw [outB_all hf1, hV1], h.below⟩
end Go.Proofs.Ytnbdeajjfhlmnaa
