/-
  aditlaw10.RouteHalves: what it hands back is true, for any calls, any number and any addresses.
-/
import Derived.Test.YtnppgaohfegloaaRules2
namespace Go.Proofs.Ytnppgaohfegloaa
open Go.RowKit

def bE4 (ad : Option Addr) (nr cap : Nat) (z : Int) (ad2 : Option Addr) (na cap2 : Nat) (m : List OpR) (c : Nat) : St := ⟨[(0, .v (.slice ad nr cap)), (1, .v (.int .i64 z)), (2, .v (.slice ad2 na cap2)), (8, .p 30 0), (9, .p 31 0), (10, lsl m c)], [(30, .ext (tabA Tab.nil)), (31, .ext (tabA Tab.nil)), (98, .ext (listA m c))]⟩
def bS4 (ad : Option Addr) (nr cap : Nat) (z : Int) (ad2 : Option Addr) (na cap2 : Nat) (m : List OpR) (c i : Nat) : St := ⟨[(0, .v (.slice ad nr cap)), (1, .v (.int .i64 z)), (2, .v (.slice ad2 na cap2)), (8, .p 30 0), (9, .p 31 0), (10, lsl m c), (11, .v (.int .i64 (i : Nat)))], [(30, .ext (tabA Tab.nil)), (31, .ext (tabA Tab.nil)), (98, .ext (listA m c))]⟩
def bK4 (ad : Option Addr) (nr cap : Nat) (z : Int) (ad2 : Option Addr) (na cap2 : Nat) (m : List OpR) (c i : Nat) (ok : Bool) (k : Nat) : St := ⟨[(0, .v (.slice ad nr cap)), (1, .v (.int .i64 z)), (2, .v (.slice ad2 na cap2)), (8, .p 30 0), (9, .p 31 0), (10, lsl m c), (11, .v (.int .i64 (i : Nat))), (12, .v (.bool ok)), (13, .v (.int .i64 (k : Nat)))], [(30, .ext (tabA Tab.nil)), (31, .ext (tabA Tab.nil)), (98, .ext (listA m c))]⟩
def kz (z : Int) : Nat := if z < 0 then (-(z + 1)).toNat else z.toNat
theorem low_whole (n b : Nat) (hb : b < 128) : topN (topN n b) (b + 1) = topN n b := by
  rw [topN_topD, low_top n b hb, topN_topD, show 128 - (b + 1) = 127 - b by omega, show 128 - b = 127 - b + 1 by omega, Nat.pow_succ, Nat.mul_comm 2, Nat.mul_assoc, Nat.mul_comm 2]
theorem high_whole (n b : Nat) (hb : b < 128) : topN (topN n b + 2 ^ (127 - b)) (b + 1) = topN n b + 2 ^ (127 - b) := by
  rw [topN_topD, high_top n b hb, topN_topD, show 128 - (b + 1) = 127 - b by omega, show 128 - b = 127 - b + 1 by omega, Nat.pow_succ, Nat.add_mul, Nat.one_mul, Nat.mul_comm 2, Nat.mul_assoc, Nat.mul_comm 2]
theorem valid_low {v : Bool} {n b : Nat} (h : validA v n = true) : validA v (topN n b) = true := by
  cases v with
  | true => rfl
  | false =>
    simp only [validA, Bool.false_or, decide_eq_true_eq] at h ⊢
    obtain ⟨x, rfl⟩ := Nat.dvd_of_mod_eq_zero h
    apply Nat.mod_eq_zero_of_dvd
    rw [topN]
    by_cases hb : 96 ≤ 128 - b
    · exact Nat.dvd_trans (Nat.pow_dvd_pow 2 hb) (Nat.dvd_mul_left _ _)
    · have e : 2 ^ 96 = 2 ^ (96 - (128 - b)) * 2 ^ (128 - b) := by rw [← Nat.pow_add]; congr 1; omega
      rw [e, Nat.mul_right_comm, Nat.mul_div_cancel _ (Nat.pow_pos (by decide)), Nat.mul_right_comm]
      exact Nat.dvd_mul_right _ _
theorem valid_high {v : Bool} {n b : Nat} (h : validA v n = true) (hb : b < mostA v) : validA v (topN n b + 2 ^ (127 - b)) = true := by
  have hl := valid_low (b := b) h
  cases v with
  | true => rfl
  | false =>
    have := most4
    simp only [validA, Bool.false_or, decide_eq_true_eq] at hl ⊢
    exact Nat.mod_eq_zero_of_dvd (Nat.dvd_add (Nat.dvd_of_mod_eq_zero hl) (Nat.pow_dvd_pow 2 (by omega)))
set_option maxRecDepth 20000 in
set_option maxHeartbeats 4000000 in
theorem law4_any (rows : List OpR) (ad : Option Addr) (g off cap : Nat) (z : Int) (hz : -9223372036854775808 ≤ z ∧ z ≤ 9223372036854775807) (addrs : List (Bool × Nat)) (ad2 : Option Addr) (g2 off2 cap2 : Nat) (w : World)
    (hrl : rows.length < 9223372036854775808) (hrow : ∀ (j : Nat) (p : OpR), rows[j]? = some p → ad = some ⟨g, off, none⟩ ∧ ∀ i, i < 20 → w.cell? ⟨g, off + j * 20 + i, none⟩ = p.c[i]?) (hrn : ∀ (j : Nat) (p : OpR), rows[j]? = some p → p.n < 2 ^ 128)
    (hal : addrs.length < 9223372036854775808) (hadr : ∀ (j : Nat) (x : Bool × Nat), addrs[j]? = some x → x.2 < 2 ^ 128 ∧ ad2 = some ⟨g2, off2, none⟩ ∧ ∀ i, i < 17 → w.cell? ⟨g2, off2 + j * 17 + i, none⟩ = (adc x.1 x.2)[i]?) :
    Calls Try.prog 4 #[.slice ad rows.length cap, .int .i64 z, .slice ad2 addrs.length cap2] w fun e w' => e = .returned (.bool true) ∧ Below w.heap.size w w' := by
  go_enter Try.func4, Try.ntmps4
  have h := Rep.start (N := 262) [.slice ad rows.length cap, .int .i64 z, .slice ad2 addrs.length cap2] [undef, undef, undef, undef, undef, undef, undef, undef, undef, undef, undef, undef, undef, undef, undef, undef, undef, undef, undef, undef, undef, undef, undef, undef, undef, undef, undef, undef, undef, undef, undef, undef, undef, undef, undef, undef, undef, undef, undef, undef, undef, undef, undef, undef, undef, undef, undef, undef, undef, undef, undef, undef, undef, undef, undef, undef, undef, undef, undef, undef, undef, undef, undef, undef, undef, undef, undef, undef, undef, undef, undef, undef, undef, undef, undef, undef, undef, undef, undef, undef, undef, undef, undef, undef, undef, undef, undef, undef, undef, undef, undef, undef, undef, undef, undef, undef, undef, undef, undef, undef, undef, undef, undef, undef, undef, undef, undef, undef, undef, undef, undef, undef, undef, undef, undef, undef, undef, undef, undef, undef, undef, undef, undef, undef, undef, undef, undef, undef, undef, undef, undef, undef, undef, undef, undef, undef, undef, undef, undef, undef, undef, undef, undef, undef, undef, undef, undef, undef, undef, undef, undef, undef, undef, undef, undef, undef, undef, undef, undef, undef, undef, undef, undef, undef, undef, undef, undef, undef, undef, undef, undef, undef, undef, undef, undef, undef, undef, undef, undef, undef, undef, undef, undef, undef, undef, undef, undef, undef, undef, undef, undef, undef, undef, undef, undef, undef, undef, undef, undef, undef, undef, undef, undef, undef, undef, undef, undef, undef, undef, undef, undef, undef, undef, undef, undef, undef, undef, undef, undef, undef, undef, undef, undef, undef, undef, undef, undef, undef, undef, undef, undef, undef, undef, undef, undef, undef, undef, undef, undef, undef, undef, undef, undef, undef, undef, undef, undef, undef, undef, undef, undef, undef, undef, undef, undef, undef, undef, undef, undef] w rfl
  apply seq_dag hmix h
  case hw =>
    apply Walk.cons
    · exact ok_assign rfl rfl rfl
    exact Walk.nil _
  case hck => kernel_rfl
  case hQ =>
    intro ρ A w1 h
    apply seq_dag hmix h
    case hw =>
      apply Walk.cons
      · exact ok_call_val rfl rfl fn8 [] rfl (rd := []) (fun ρ w _ _ => awake_any w)
      apply Walk.cons
      · exact ok_assign rfl rfl rfl
      exact Walk.nil _
    case hck => kernel_rfl
    case hQ =>
      intro ρ A w1 h
      apply seq_dag hmix h
      case hw =>
        apply Walk.cons
        · exact o_new 30 rfl rfl
        apply Walk.cons
        · exact ok_assign rfl rfl rfl
        exact Walk.nil _
      case hck => kernel_rfl
      case hQ =>
        intro ρ A w1 h
        apply seq_dag hmix h
        case hw =>
          apply Walk.cons
          · exact o_new 31 rfl rfl
          apply Walk.cons
          · exact ok_assign rfl rfl rfl
          exact Walk.nil _
        case hck => kernel_rfl
        case hQ =>
          intro ρ A w1 h
          refine wp_seq ?_
          apply seq_dag hmix h
          case hw =>
            apply Walk.cons
            · exact ok_move rfl rfl rfl
            apply Walk.cons
            · exact ok_not rfl rfl rfl rfl
            apply Walk.cons
            · exact ok_move rfl rfl rfl
            apply Walk.cons
            · first | exact ok_skip rfl | exact ok_skip_u rfl | exact ok_move rfl rfl rfl
            apply Walk.cons
            · first | exact ok_skip rfl | exact o_nonnil rfl rfl (.inl rfl) rfl rfl
            apply Walk.cons
            · first | exact ok_pick_true rfl rfl rfl rfl | exact ok_pick_false rfl rfl rfl rfl
            apply Walk.cons
            · exact ok_move rfl rfl rfl
            apply Walk.cons
            · first | exact ok_skip rfl | exact ok_skip_u rfl | exact ok_move rfl rfl rfl
            apply Walk.cons
            · first | exact ok_skip rfl | exact o_nonnil rfl rfl (.inl rfl) rfl rfl
            apply Walk.cons
            · first | exact ok_pick_true rfl rfl rfl rfl | exact ok_pick_false rfl rfl rfl rfl
            exact Walk.nil _
          case hck => kernel_rfl
          case hQ =>
            intro ρ A w1 h
            refine if_false' h rfl (wp_skip (Exit.then_normal ?_))
            apply seq_dag hmix h
            case hw =>
              apply Walk.cons
              · exact ok_assign rfl rfl rfl
              exact Walk.nil _
            case hck => kernel_rfl
            case hQ =>
              intro ρ A w1 h
              have h := h.ghost (k := 10) rfl [(0, .v (.slice ad rows.length cap)), (1, .v (.int .i64 z)), (2, .v (.slice ad2 addrs.length cap2)), (8, .p 30 0), (9, .p 31 0)] [(30, .ext (tabA Tab.nil)), (31, .ext (tabA Tab.nil))] ⟨rfl, rfl, rfl, rfl, rfl, trivial⟩ ⟨rfl, rfl, trivial⟩ rfl rfl
              refine wp_seq ?_
              refine wp_join (fun a w3 => ∃ m c ρ, (m.length ≤ 30 ∧ (∀ (j : Nat) (q : OpR), m[j]? = some q → q.Ok) ∧ Dist m) ∧ Rep 262 (bE4 ad rows.length cap z ad2 addrs.length cap2 m c) ρ { W := w } a w3) ?_ ?_
              · apply seq_dag hmix h
                case hw =>
                  apply Walk.cons
                  · exact ok_assign rfl rfl rfl
                  exact Walk.nil _
                case hck => kernel_rfl
                case hQ =>
                  intro ρ A w1 h
                  have h := h.plain (bS4 ad rows.length cap z ad2 addrs.length cap2 [] 0 0) ⟨rfl, rfl, rfl, rfl, rfl, rfl, rfl, trivial⟩ ⟨rfl, rfl, rfl, trivial⟩ rfl
                  refine wp_block ?_
                  refine rep_loop_by (fun (x : List OpR × Nat × Nat) => rows.length - x.2.2) (fun (x : List OpR × Nat × Nat) => bS4 ad rows.length cap z ad2 addrs.length cap2 x.1 x.2.1 x.2.2) (fun (x : List OpR × Nat × Nat) => x.2.2 ≤ rows.length ∧ x.1.length ≤ 30 ∧ (∀ (j : Nat) (q : OpR), x.1[j]? = some q → q.Ok) ∧ Dist x.1) ([], 0, 0) ⟨Nat.zero_le _, Nat.zero_le _, (fun j q hq => by simp at hq), (fun i j p q hi => by simp at hi)⟩ h ?_
                  clear h
                  rintro ⟨m, c, i⟩ ρ A w2 ⟨hi, hml, hmok, hmd⟩ h
                  simp only at hi hml hmok hmd h
                  by_cases hir : i < rows.length
                  · by_cases hmm : m.length < 30
                    · refine wp_seq ?_
                      apply seq_dag hmix h
                      case hw =>
                        apply Walk.cons
                        · exact ok_move rfl rfl rfl
                        apply Walk.cons
                        · exact ok_move rfl rfl rfl
                        apply Walk.cons
                        · exact ok_len_ro rfl rfl rfl u36
                        apply Walk.cons
                        · exact o_bin rfl rfl rfl rfl (r_lss (a := i) (b := rows.length) (decide_eq_true hir))
                        apply Walk.cons
                        · exact ok_move rfl rfl rfl
                        apply Walk.cons
                        · first | exact ok_skip rfl | exact ok_skip_u rfl | exact ok_move rfl rfl rfl
                        apply Walk.cons
                        · first | exact ok_skip rfl | exact ok_skip_u rfl | exact o_llen rfl rfl rfl
                        apply Walk.cons
                        · first | exact ok_skip rfl | exact ok_skip_u rfl | exact o_bin rfl rfl rfl rfl (r_lss (a := m.length) (b := 30) (decide_eq_true hmm))
                        apply Walk.cons
                        · first | exact ok_pick_true rfl rfl rfl rfl | exact ok_pick_false rfl rfl rfl rfl
                        exact Walk.nil _
                      case hck => kernel_rfl
                      case hQ =>
                        intro ρ A w1 h
                        refine if_true' h rfl (wp_skip ?_)
                        refine Exit.then_normal ?_
                        refine wp_seq (wp_block ?_)
                        obtain ⟨p, hp1⟩ : ∃ p, rows[i]? = some p := ⟨_, List.getElem?_eq_getElem hir⟩
                        obtain ⟨had, hcell⟩ := hrow i p hp1
                        have hpn := hrn i p hp1
                        have hlr : rows.length < 9223372036854775808 := hrl
                        apply seq_dag hmix h
                        case hw =>
                          apply Walk.cons
                          · exact ok_move rfl rfl rfl
                          apply Walk.cons
                          · exact ok_move rfl rfl rfl
                          apply Walk.cons
                          · exact o_rat rfl rfl rfl rfl u36 sz40 had (by omega)
                          apply Walk.cons
                          · first | exact ok_fld rfl rfl rfl fo40_2 rfl | exact ok_fld_v rfl rfl rfl fo40_2 rfl
                          apply Walk.cons
                          · exact o_r31 rfl rfl rfl (fun h => h) hcell
                          apply Walk.cons
                          · exact ok_call_val rfl rfl fn13 [.v _] rfl (rd := []) (fun _ w _ _ => isPrefix_any _ _ _ w)
                          apply Walk.cons
                          · exact ok_assign rfl rfl rfl
                          exact Walk.nil _
                        case hck => kernel_rfl
                        case hQ =>
                          intro ρ A w1 h
                          refine wp_seq ?_
                          refine wp_join (fun a w3 => ∃ ok k ρ, (ok = true → p.Ok ∧ ∀ (j : Nat) (q : OpR), m[j]? = some q → ¬ q.key p.v p.bn (topD p.n p.bn)) ∧ Rep 262 (bK4 ad rows.length cap z ad2 addrs.length cap2 m c i ok k) ρ { W := w } a w3) ?_ ?_
                          · apply seq_dag hmix h
                            case hw =>
                              apply Walk.cons
                              · exact ok_assign rfl rfl rfl
                              exact Walk.nil _
                            case hck => kernel_rfl
                            case hQ =>
                              intro ρ A w1 h
                              have h := h.plain (bK4 ad rows.length cap z ad2 addrs.length cap2 m c i (isPfx p.v p.n p.b) 0) ⟨rfl, rfl, rfl, rfl, rfl, rfl, rfl, rfl, rfl, trivial⟩ ⟨rfl, rfl, rfl, trivial⟩ rfl
                              refine wp_block ?_
                              refine rep_loop_by (fun (x : Bool × Nat) => m.length - x.2) (fun (x : Bool × Nat) => bK4 ad rows.length cap z ad2 addrs.length cap2 m c i x.1 x.2) (fun (x : Bool × Nat) => x.2 ≤ m.length ∧ (x.1 = true → p.Ok ∧ ∀ (j : Nat) (q : OpR), j < x.2 → m[j]? = some q → ¬ q.key p.v p.bn (topD p.n p.bn))) (isPfx p.v p.n p.b, 0) ⟨Nat.zero_le _, fun hok => ⟨⟨hpn, hok⟩, fun j q hj => absurd hj (Nat.not_lt_zero j)⟩⟩ h ?_
                              clear h
                              rintro ⟨ok, k⟩ ρ A w3 ⟨hk, hkI⟩ h
                              simp only at hk hkI h
                              by_cases hkl : k < m.length
                              · cases ok with
                                | true =>
                                  obtain ⟨hpok, hkI⟩ := hkI rfl
                                  obtain ⟨q, hq⟩ : ∃ q, m[k]? = some q := ⟨_, List.getElem?_eq_getElem hkl⟩
                                  have hqok := hmok k q hq
                                  refine wp_seq ?_
                                  apply seq_dag hmix h
                                  case hw =>
                                    apply Walk.cons
                                    · exact ok_move rfl rfl rfl
                                    apply Walk.cons
                                    · exact ok_move rfl rfl rfl
                                    apply Walk.cons
                                    · exact o_llen rfl rfl rfl
                                    apply Walk.cons
                                    · exact o_bin rfl rfl rfl rfl (r_lss (a := k) (b := m.length) (decide_eq_true hkl))
                                    apply Walk.cons
                                    · exact ok_move rfl rfl rfl
                                    apply Walk.cons
                                    · first | exact ok_skip rfl | exact ok_skip_u rfl | exact ok_move rfl rfl rfl
                                    apply Walk.cons
                                    · first | exact ok_pick_true rfl rfl rfl rfl | exact ok_pick_false rfl rfl rfl rfl
                                    exact Walk.nil _
                                  case hck => kernel_rfl
                                  case hQ =>
                                    intro ρ A w1 h
                                    refine if_true' h rfl (wp_skip ?_)
                                    refine Exit.then_normal ?_
                                    refine wp_seq (wp_block ?_)
                                    have hw1 := whole_eq (v := q.v) (v' := p.v) (n := q.n) (n' := p.n) (b := q.bn) (b' := p.bn) (Nat.le_trans hqok.le (mostA_le _))
                                    apply region_dag hmix h
                                    case hw =>
                                      apply Walk.cons
                                      · exact ok_move rfl rfl rfl
                                      apply Walk.cons
                                      · exact ok_move rfl rfl rfl
                                      apply Walk.cons
                                      · exact o_lat rfl rfl rfl rfl hkl
                                      apply Walk.cons
                                      · exact ok_fld rfl rfl rfl fo40_2 rfl
                                      apply Walk.cons
                                      · exact o_ll31 rfl rfl rfl rfl hq
                                      apply Walk.cons
                                      · exact ok_call_val rfl rfl fn14 [.v _] rfl (rd := []) (fun _ w _ _ => wholeR hqok w)
                                      apply Walk.cons
                                      · exact ok_move rfl rfl rfl
                                      apply Walk.cons
                                      · exact ok_move rfl rfl rfl
                                      apply Walk.cons
                                      · exact o_rat rfl rfl rfl rfl u36 sz40 had (by omega)
                                      apply Walk.cons
                                      · exact ok_fld_v rfl rfl rfl fo40_2 rfl
                                      apply Walk.cons
                                      · exact o_r31 rfl rfl rfl (fun h => h) hcell
                                      apply Walk.cons
                                      · exact ok_call_val rfl rfl fn14 [.v _] rfl (rd := []) (fun _ w _ _ => wholeR hpok w)
                                      apply Walk.cons
                                      · exact o_neq31 rfl rfl rfl rfl (topN_lt hqok.lt) (topN_lt hpok.lt) rfl
                                      apply Walk.cons
                                      · exact ok_assign rfl rfl rfl
                                      exact Walk.nil _
                                    case hck => kernel_rfl
                                    case hQ =>
                                      intro ρ A w1 h
                                      refine Exit.block_normal (Exit.then_normal ?_)
                                      apply region_dag hmix h
                                      case hw =>
                                        apply Walk.cons
                                        · exact ok_move rfl rfl rfl
                                        apply Walk.cons
                                        · exact o_bin rfl rfl rfl rfl (r_addi (a := k) (b := 1) (by omega))
                                        apply Walk.cons
                                        · exact ok_assign rfl rfl rfl
                                        exact Walk.nil _
                                      case hck => kernel_rfl
                                      case hQ =>
                                        intro ρ A w1 h
                                        refine ⟨(!decide (q.v = p.v ∧ topN q.n q.bn = topN p.n p.bn ∧ ((q.bn : Nat) : Int) = (p.bn : Nat)), k + 1), _, by simp only; omega, ⟨by simp only; omega, fun hok => ⟨hpok, fun j x hj hx => ?_⟩⟩, h.plain (bK4 ad rows.length cap z ad2 addrs.length cap2 m c i _ (k + 1)) ⟨rfl, rfl, rfl, rfl, rfl, rfl, rfl, rfl, rfl, trivial⟩ ⟨rfl, rfl, rfl, trivial⟩ rfl⟩
                                        simp only at hj
                                        by_cases hjk : j = k
                                        · subst hjk
                                          rw [hq] at hx
                                          cases hx
                                          intro hkey
                                          have := hw1.2 hkey
                                          simp [this] at hok
                                        · exact hkI j x (by omega) hx
                                | false =>
                                  refine wp_seq ?_
                                  apply seq_dag hmix h
                                  case hw =>
                                    apply Walk.cons
                                    · exact ok_move rfl rfl rfl
                                    apply Walk.cons
                                    · exact ok_move rfl rfl rfl
                                    apply Walk.cons
                                    · exact o_llen rfl rfl rfl
                                    apply Walk.cons
                                    · exact o_bin rfl rfl rfl rfl (r_lss (a := k) (b := m.length) (decide_eq_true hkl))
                                    apply Walk.cons
                                    · exact ok_move rfl rfl rfl
                                    apply Walk.cons
                                    · first | exact ok_skip rfl | exact ok_skip_u rfl | exact ok_move rfl rfl rfl
                                    apply Walk.cons
                                    · first | exact ok_pick_true rfl rfl rfl rfl | exact ok_pick_false rfl rfl rfl rfl
                                    exact Walk.nil _
                                  case hck => kernel_rfl
                                  case hQ =>
                                    intro ρ A w1 h
                                    refine if_false' h rfl (wp_exit (at_exit' ?_))
                                    refine Exit.then_normal ?_
                                    exact ⟨false, k, _, (fun h => by cases h), h.plain (bK4 ad rows.length cap z ad2 addrs.length cap2 m c i false k) ⟨rfl, rfl, rfl, rfl, rfl, rfl, rfl, rfl, rfl, trivial⟩ ⟨rfl, rfl, rfl, trivial⟩ rfl⟩
                              · have hke : k = m.length := by omega
                                refine wp_seq ?_
                                apply seq_dag hmix h
                                case hw =>
                                  apply Walk.cons
                                  · exact ok_move rfl rfl rfl
                                  apply Walk.cons
                                  · exact ok_move rfl rfl rfl
                                  apply Walk.cons
                                  · exact o_llen rfl rfl rfl
                                  apply Walk.cons
                                  · exact o_bin rfl rfl rfl rfl (r_lss (a := k) (b := m.length) (decide_eq_false hkl))
                                  apply Walk.cons
                                  · exact ok_move rfl rfl rfl
                                  apply Walk.cons
                                  · first | exact ok_skip rfl | exact ok_skip_u rfl | exact ok_move rfl rfl rfl
                                  apply Walk.cons
                                  · first | exact ok_pick_true rfl rfl rfl rfl | exact ok_pick_false rfl rfl rfl rfl
                                  exact Walk.nil _
                                case hck => kernel_rfl
                                case hQ =>
                                  intro ρ A w1 h
                                  refine if_false' h rfl (wp_exit (at_exit' ?_))
                                  refine Exit.then_normal ?_
                                  exact ⟨ok, k, _, fun hok => ⟨(hkI hok).1, fun j q hq => (hkI hok).2 j q (by have := (List.getElem?_eq_some_iff.1 hq).1; omega) hq⟩, h.plain (bK4 ad rows.length cap z ad2 addrs.length cap2 m c i ok k) ⟨rfl, rfl, rfl, rfl, rfl, rfl, rfl, rfl, rfl, trivial⟩ ⟨rfl, rfl, rfl, trivial⟩ rfl⟩
                          · rintro a w3 ⟨ok, k, ρ, hokI, h⟩
                            refine wp_fold (fun a w4 => ∃ m c ρ, (m.length ≤ 30 ∧ (∀ (j : Nat) (q : OpR), m[j]? = some q → q.Ok) ∧ Dist m) ∧ Rep 262 (bS4 ad rows.length cap z ad2 addrs.length cap2 m c i) ρ { W := w } a w4) ?_ ?_
                            · apply seq_dag hmix h
                              case hw =>
                                apply Walk.cons
                                · exact ok_move rfl rfl rfl
                                exact Walk.nil _
                              case hck => kernel_rfl
                              case hQ =>
                                intro ρ A w1 h
                                refine if_any h rfl (fun hok => ?_) (fun _ => ?_)
                                · obtain ⟨hpok, hnew⟩ := hokI hok
                                  refine last_list ?_
                                  refine wpl_step h rfl (ok_move rfl rfl rfl) rfl rfl rfl rfl ?_
                                  intro ρ A w3 h
                                  refine wpl_step h rfl (ok_move rfl rfl rfl) rfl rfl rfl rfl ?_
                                  intro ρ A w3 h
                                  refine wpl_step h rfl (ok_move rfl rfl rfl) rfl rfl rfl rfl ?_
                                  intro ρ A w3 h
                                  refine wpl_step h rfl (o_rat rfl rfl rfl rfl u36 sz40 had (by omega)) rfl rfl rfl rfl ?_
                                  intro ρ A w3 h
                                  refine wpl_step h rfl (o_r40 rfl rfl rfl (fun h => h) hcell) rfl rfl rfl rfl ?_
                                  intro ρ A w3 h
                                  refine wpl_step h rfl (o_lit40 87 rfl rfl rfl) rfl rfl rfl rfl ?_
                                  intro ρ A w3 h
                                  refine wpl_lapp h rfl rfl rfl rfl (by decide) rfl rfl rfl rfl (by omega) [(0, .v (.slice ad rows.length cap)), (1, .v (.int .i64 z)), (2, .v (.slice ad2 addrs.length cap2)), (8, .p 30 0), (9, .p 31 0), (11, .v (.int .i64 (i : Nat)))] [(30, .ext (tabA Tab.nil)), (31, .ext (tabA Tab.nil))] ⟨rfl, rfl, rfl, rfl, rfl, rfl, trivial⟩ rfl ⟨rfl, rfl, trivial⟩ rfl (fun _ => rfl) ?_
                                  intro c2 ρ A w4 h
                                  refine wpl_step h rfl (ok_assign rfl rfl rfl) rfl rfl rfl rfl ?_
                                  intro ρ A w4 h
                                  refine wpList_nil ?_
                                  refine Exit.then_normal ?_
                                  refine ⟨m ++ [p], c2, _, ⟨by simp; omega, fun j q hq => ?_, hmd.add hnew⟩, h.plain (bS4 ad rows.length cap z ad2 addrs.length cap2 (m ++ [p]) c2 i) ⟨rfl, rfl, rfl, rfl, rfl, rfl, rfl, trivial⟩ ⟨rfl, rfl, rfl, trivial⟩ rfl⟩
                                  rcases Nat.lt_or_ge j m.length with hj | hj
                                  · rw [List.getElem?_append_left hj] at hq
                                    exact hmok j q hq
                                  · rw [List.getElem?_append_right hj] at hq
                                    obtain ⟨hlt, he⟩ := List.getElem?_eq_some_iff.1 hq
                                    simp at he
                                    rw [← he]
                                    exact hpok
                                · refine wp_skip ?_
                                  refine Exit.then_normal ?_
                                  exact ⟨m, c, _, ⟨hml, hmok, hmd⟩, h.plain (bS4 ad rows.length cap z ad2 addrs.length cap2 m c i) ⟨rfl, rfl, rfl, rfl, rfl, rfl, rfl, trivial⟩ ⟨rfl, rfl, rfl, trivial⟩ rfl⟩
                            · rintro a w4 ⟨m, c, ρ, ⟨h1, h2, h3⟩, h⟩
                              refine Exit.block_normal (Exit.then_normal ?_)
                              apply region_dag hmix h
                              case hw =>
                                apply Walk.cons
                                · exact ok_move rfl rfl rfl
                                apply Walk.cons
                                · exact o_bin rfl rfl rfl rfl (r_addi (a := i) (b := 1) (by omega))
                                apply Walk.cons
                                · exact ok_assign rfl rfl rfl
                                exact Walk.nil _
                              case hck => kernel_rfl
                              case hQ =>
                                intro ρ A w1 h
                                exact ⟨(m, c, i + 1), _, by simp only; omega, ⟨by simp only; omega, h1, h2, h3⟩, h.plain (bS4 ad rows.length cap z ad2 addrs.length cap2 m c (i + 1)) ⟨rfl, rfl, rfl, rfl, rfl, rfl, rfl, trivial⟩ ⟨rfl, rfl, rfl, trivial⟩ rfl⟩
                    · refine wp_seq ?_
                      apply seq_dag hmix h
                      case hw =>
                        apply Walk.cons
                        · exact ok_move rfl rfl rfl
                        apply Walk.cons
                        · exact ok_move rfl rfl rfl
                        apply Walk.cons
                        · exact ok_len_ro rfl rfl rfl u36
                        apply Walk.cons
                        · exact o_bin rfl rfl rfl rfl (r_lss (a := i) (b := rows.length) (decide_eq_true hir))
                        apply Walk.cons
                        · exact ok_move rfl rfl rfl
                        apply Walk.cons
                        · first | exact ok_skip rfl | exact ok_skip_u rfl | exact ok_move rfl rfl rfl
                        apply Walk.cons
                        · first | exact ok_skip rfl | exact ok_skip_u rfl | exact o_llen rfl rfl rfl
                        apply Walk.cons
                        · first | exact ok_skip rfl | exact ok_skip_u rfl | exact o_bin rfl rfl rfl rfl (r_lss (a := m.length) (b := 30) (decide_eq_false hmm))
                        apply Walk.cons
                        · first | exact ok_pick_true rfl rfl rfl rfl | exact ok_pick_false rfl rfl rfl rfl
                        exact Walk.nil _
                      case hck => kernel_rfl
                      case hQ =>
                        intro ρ A w1 h
                        refine if_false' h rfl (wp_exit (at_exit' ?_))
                        refine Exit.then_normal ?_
                        exact ⟨m, c, _, ⟨hml, hmok, hmd⟩, h.plain (bE4 ad rows.length cap z ad2 addrs.length cap2 m c) ⟨rfl, rfl, rfl, rfl, rfl, rfl, trivial⟩ ⟨rfl, rfl, rfl, trivial⟩ rfl⟩
                  · refine wp_seq ?_
                    apply seq_dag hmix h
                    case hw =>
                      apply Walk.cons
                      · exact ok_move rfl rfl rfl
                      apply Walk.cons
                      · exact ok_move rfl rfl rfl
                      apply Walk.cons
                      · exact ok_len_ro rfl rfl rfl u36
                      apply Walk.cons
                      · exact o_bin rfl rfl rfl rfl (r_lss (a := i) (b := rows.length) (decide_eq_false hir))
                      apply Walk.cons
                      · exact ok_move rfl rfl rfl
                      apply Walk.cons
                      · first | exact ok_skip rfl | exact ok_skip_u rfl | exact ok_move rfl rfl rfl
                      apply Walk.cons
                      · first | exact ok_skip rfl | exact ok_skip_u rfl | exact o_llen rfl rfl rfl
                      apply Walk.cons
                      · first | exact ok_skip rfl | exact ok_skip_u rfl | exact o_bin rfl rfl rfl rfl (r_lss (a := m.length) (b := 30) (decide_eq_false (by omega)))
                      apply Walk.cons
                      · first | exact ok_pick_true rfl rfl rfl rfl | exact ok_pick_false rfl rfl rfl rfl
                      exact Walk.nil _
                    case hck => kernel_rfl
                    case hQ =>
                      intro ρ A w1 h
                      refine if_false' h rfl (wp_exit (at_exit' ?_))
                      refine Exit.then_normal ?_
                      exact ⟨m, c, _, ⟨hml, hmok, hmd⟩, h.plain (bE4 ad rows.length cap z ad2 addrs.length cap2 m c) ⟨rfl, rfl, rfl, rfl, rfl, rfl, trivial⟩ ⟨rfl, rfl, rfl, trivial⟩ rfl⟩
              · rintro a w3 ⟨m, c, ρ, ⟨hml, hmok, hmd⟩, h⟩
                refine wp_seq ?_
                by_cases hm0 : m.length = 0
                · apply seq_dag hmix h
                  case hw =>
                    apply Walk.cons
                    · exact ok_move rfl rfl rfl
                    apply Walk.cons
                    · exact o_llen rfl rfl rfl
                    apply Walk.cons
                    · exact o_bin rfl rfl rfl rfl (r_eqli (a := m.length) (b := 0) (decide_eq_true hm0))
                    exact Walk.nil _
                  case hck => kernel_rfl
                  case hQ =>
                    intro ρ A w1 h
                    refine if_true' h rfl ?_
                    apply seq_dag hmix h
                    case hw =>
                      apply Walk.cons
                      · exact ok_assign rfl rfl rfl
                      exact Walk.nil _
                    case hck => kernel_rfl
                    case hQ =>
                      intro ρ A w1 h
                      refine wp_ret ?_
                      repeat (first | refine Exit.thenRet ?_ | refine Exit.blockRet ?_)
                      refine h.result_tmp Try.results4 rfl ?_
                      exact ⟨rfl, h.below⟩
                · apply seq_dag hmix h
                  case hw =>
                    apply Walk.cons
                    · exact ok_move rfl rfl rfl
                    apply Walk.cons
                    · exact o_llen rfl rfl rfl
                    apply Walk.cons
                    · exact o_bin rfl rfl rfl rfl (r_eqli (a := m.length) (b := 0) (decide_eq_false hm0))
                    exact Walk.nil _
                  case hck => kernel_rfl
                  case hQ =>
                    intro ρ A w1 h
                    refine if_false' h rfl (wp_skip (Exit.then_normal ?_))
                    apply seq_dag hmix h
                    case hw =>
                      apply Walk.cons
                      · exact ok_move rfl rfl rfl
                      apply Walk.cons
                      · exact ok_assign rfl rfl rfl
                      exact Walk.nil _
                    case hck => kernel_rfl
                    case hQ =>
                      intro ρ A w1 h
                      refine wp_seq ?_
                      refine wp_join (fun a w3 => ∃ ρ, Rep 262 ⟨[(2, .v (.slice ad2 addrs.length cap2)), (8, .p 30 0), (9, .p 31 0), (10, lsl m c), (14, .v (.int .i64 ((kz z : Nat) : Int)))], [(30, .ext (tabA Tab.nil)), (31, .ext (tabA Tab.nil)), (98, .ext (listA m c))]⟩ ρ { W := w } a w3) ?_ ?_
                      · by_cases hz0 : z < 0
                        · apply seq_dag hmix h
                          case hw =>
                            apply Walk.cons
                            · exact ok_move rfl rfl rfl
                            apply Walk.cons
                            · exact o_bin rfl rfl rfl rfl (r_lssi (a := z) (b := 0) (decide_eq_true hz0))
                            exact Walk.nil _
                          case hck => kernel_rfl
                          case hQ =>
                            intro ρ A w1 h
                            refine if_true' h rfl ?_
                            apply region_dag hmix h
                            case hw =>
                              apply Walk.cons
                              · exact ok_move rfl rfl rfl
                              apply Walk.cons
                              · exact o_bin rfl rfl rfl rfl (r_addz (c := z + 1) (by rw [IntKind.wrap_i64]; omega))
                              apply Walk.cons
                              · exact o_neg rfl rfl rfl (c := ((-(z + 1)).toNat : Nat)) (by rw [IntKind.wrap_i64]; omega)
                              apply Walk.cons
                              · exact ok_assign rfl rfl rfl
                              exact Walk.nil _
                            case hck => kernel_rfl
                            case hQ =>
                              intro ρ A w1 h
                              refine Exit.then_normal ?_
                              exact ⟨_, h.plain _ ⟨rfl, rfl, rfl, rfl, by rw [kz, if_pos hz0]; rfl, trivial⟩ ⟨rfl, rfl, rfl, trivial⟩ rfl⟩
                        · apply seq_dag hmix h
                          case hw =>
                            apply Walk.cons
                            · exact ok_move rfl rfl rfl
                            apply Walk.cons
                            · exact o_bin rfl rfl rfl rfl (r_lssi (a := z) (b := 0) (decide_eq_false hz0))
                            exact Walk.nil _
                          case hck => kernel_rfl
                          case hQ =>
                            intro ρ A w1 h
                            refine if_false' h rfl (wp_skip (Exit.then_normal ?_))
                            have e : ((kz z : Nat) : Int) = z := by rw [kz, if_neg hz0]; omega
                            exact ⟨_, h.plain _ ⟨rfl, rfl, rfl, rfl, by rw [e]; rfl, trivial⟩ ⟨rfl, rfl, rfl, trivial⟩ rfl⟩
                      · rintro a w3 ⟨ρ, h⟩
                        apply seq_dag hmix h
                        case hw =>
                          apply Walk.cons
                          · exact ok_move rfl rfl rfl
                          apply Walk.cons
                          · exact ok_move rfl rfl rfl
                          apply Walk.cons
                          · exact o_llen rfl rfl rfl
                          apply Walk.cons
                          · exact o_bin rfl rfl rfl rfl (r_remi (a := kz z) (b := m.length) hm0)
                          apply Walk.cons
                          · exact ok_assign rfl rfl rfl
                          exact Walk.nil _
                        case hck => kernel_rfl
                        case hQ =>
                          intro ρ A w1 h
                          obtain ⟨k, hke, hk⟩ : ∃ k, kz z % m.length = k ∧ k < m.length := ⟨_, rfl, Nat.mod_lt _ (by omega)⟩
                          have h := h.plain ⟨[(2, .v (.slice ad2 addrs.length cap2)), (8, .p 30 0), (9, .p 31 0), (10, lsl m c), (14, .v (.int .i64 (k : Nat)))], [(30, .ext (tabA Tab.nil)), (31, .ext (tabA Tab.nil)), (98, .ext (listA m c))]⟩ ⟨rfl, rfl, rfl, rfl, by rw [← hke]; rfl, trivial⟩ ⟨rfl, rfl, rfl, trivial⟩ rfl
                          obtain ⟨p, hp1⟩ : ∃ p, m[k]? = some p := ⟨_, List.getElem?_eq_getElem hk⟩
                          have hpok := hmok k p hp1
                          apply seq_dag hmix h
                          case hw =>
                            apply Walk.cons
                            · exact ok_move rfl rfl rfl
                            apply Walk.cons
                            · exact ok_move rfl rfl rfl
                            apply Walk.cons
                            · exact o_lat rfl rfl rfl rfl hk
                            apply Walk.cons
                            · exact ok_fld rfl rfl rfl fo40_2 rfl
                            apply Walk.cons
                            · exact o_ll31 rfl rfl rfl rfl hp1
                            apply Walk.cons
                            · exact ok_call_val rfl rfl fn14 [.v _] rfl (rd := []) (fun _ w _ _ => wholeR hpok w)
                            apply Walk.cons
                            · exact o_alloc31 15 rfl rfl
                            apply Walk.cons
                            · exact o_store31 rfl rfl rfl rfl rfl
                            exact Walk.nil _
                          case hck => kernel_rfl
                          case hQ =>
                            intro ρ A w1 h
                            apply seq_dag hmix h
                            case hw =>
                              apply Walk.cons
                              · exact ok_assign rfl rfl rfl
                              exact Walk.nil _
                            case hck => kernel_rfl
                            case hQ =>
                              intro ρ A w1 h
                              refine wp_seq ?_
                              refine wp_join (fun a w3 => ∃ ρ, Rep 262 ⟨[(2, .v (.slice ad2 addrs.length cap2)), (8, .p 30 0), (9, .p 31 0), (10, lsl m c), (14, .v (.int .i64 (k : Nat))), (15, .p 15 0), (16, .v (.int .i64 ((mostA p.v : Nat) : Int)))], [(30, .ext (tabA Tab.nil)), (31, .ext (tabA Tab.nil)), (98, .ext (listA m c)), (15, .mk (pfc p.v (topN p.n p.bn) (p.bn : Nat)) 31)]⟩ ρ { W := w } a w3) ?_ ?_
                              · apply seq_dag hmix h
                                case hw =>
                                  apply Walk.cons
                                  · first | exact ok_fld rfl rfl rfl fo31_0 rfl | exact ok_fld_v rfl rfl rfl fo31_0 rfl
                                  apply Walk.cons
                                  · first | exact ok_fld rfl rfl rfl fo24_0 rfl | exact ok_fld_v rfl rfl rfl fo24_0 rfl
                                  apply Walk.cons
                                  · exact ok_load_cell rfl rfl rfl rfl one4 rfl
                                  exact Walk.nil _
                                case hck => kernel_rfl
                                case hQ =>
                                  intro ρ A w1 h
                                  refine if_any h rfl (fun hv => ?_) (fun hv => ?_)
                                  · apply region_dag hmix h
                                    case hw =>
                                      apply Walk.cons
                                      · exact ok_assign rfl rfl rfl
                                      exact Walk.nil _
                                    case hck => kernel_rfl
                                    case hQ =>
                                      intro ρ A w1 h
                                      refine Exit.then_normal ?_
                                      have e : mostA p.v = 128 := by rw [hv]; rfl
                                      exact ⟨_, h.plain _ ⟨rfl, rfl, rfl, rfl, rfl, rfl, by rw [e]; rfl, trivial⟩ ⟨rfl, rfl, rfl, rfl, trivial⟩ rfl⟩
                                  · refine wp_skip (Exit.then_normal ?_)
                                    have e : mostA p.v = 32 := by rw [hv]; rfl
                                    exact ⟨_, h.plain _ ⟨rfl, rfl, rfl, rfl, rfl, rfl, by rw [e]; rfl, trivial⟩ ⟨rfl, rfl, rfl, rfl, trivial⟩ rfl⟩
                              · rintro a w3 ⟨ρ, h⟩
                                have hbm := hpok.le
                                have hm128 := mostA_le p.v
                                refine wp_seq ?_
                                by_cases hge : mostA p.v ≤ p.bn
                                · apply seq_dag hmix h
                                  case hw =>
                                    apply Walk.cons
                                    · first | exact ok_fld rfl rfl rfl fo31_1 rfl | exact ok_fld_v rfl rfl rfl fo31_1 rfl
                                    apply Walk.cons
                                    · exact ok_load_cell rfl rfl rfl rfl one3 rfl
                                    apply Walk.cons
                                    · exact ok_move rfl rfl rfl
                                    apply Walk.cons
                                    · exact o_bin rfl rfl rfl rfl (r_geqi (a := (p.bn : Nat)) (b := (mostA p.v : Nat)) (decide_eq_true (by omega)))
                                    exact Walk.nil _
                                  case hck => kernel_rfl
                                  case hQ =>
                                    intro ρ A w1 h
                                    refine if_true' h rfl ?_
                                    apply seq_dag hmix h
                                    case hw =>
                                      apply Walk.cons
                                      · exact ok_assign rfl rfl rfl
                                      exact Walk.nil _
                                    case hck => kernel_rfl
                                    case hQ =>
                                      intro ρ A w1 h
                                      refine wp_ret ?_
                                      repeat (first | refine Exit.thenRet ?_ | refine Exit.blockRet ?_)
                                      refine h.result_tmp Try.results4 rfl ?_
                                      exact ⟨rfl, h.below⟩
                                · apply seq_dag hmix h
                                  case hw =>
                                    apply Walk.cons
                                    · first | exact ok_fld rfl rfl rfl fo31_1 rfl | exact ok_fld_v rfl rfl rfl fo31_1 rfl
                                    apply Walk.cons
                                    · exact ok_load_cell rfl rfl rfl rfl one3 rfl
                                    apply Walk.cons
                                    · exact ok_move rfl rfl rfl
                                    apply Walk.cons
                                    · exact o_bin rfl rfl rfl rfl (r_geqi (a := (p.bn : Nat)) (b := (mostA p.v : Nat)) (decide_eq_false (by omega)))
                                    exact Walk.nil _
                                  case hck => kernel_rfl
                                  case hQ =>
                                    intro ρ A w1 h
                                    refine if_false' h rfl (wp_skip (Exit.then_normal ?_))
                                    have hb128 : p.bn < 128 := by omega
                                    have htl := topN_lt (b := p.bn) hpok.lt
                                    have hbyte := high_byte p.n p.bn hb128
                                    apply seq_dag hmix h
                                    case hw =>
                                      apply Walk.cons
                                      · first | exact ok_fld rfl rfl rfl fo31_0 rfl | exact ok_fld_v rfl rfl rfl fo31_0 rfl
                                      apply Walk.cons
                                      · exact o_load24p rfl rfl rfl rfl
                                      apply Walk.cons
                                      · first | exact ok_fld rfl rfl rfl fo31_1 rfl | exact ok_fld_v rfl rfl rfl fo31_1 rfl
                                      apply Walk.cons
                                      · exact ok_load_cell rfl rfl rfl rfl one3 rfl
                                      apply Walk.cons
                                      · exact o_bin rfl rfl rfl rfl (r_addi (a := p.bn) (b := 1) (by omega))
                                      apply Walk.cons
                                      · exact o_built rfl rfl (by kernel_rfl) (v := .agg (pfc p.v (topN p.n p.bn) ((p.bn + 1 : Nat) : Int))) (fun w => by kernel_rfl)
                                      apply Walk.cons
                                      · exact o_alloc31 17 rfl rfl
                                      apply Walk.cons
                                      · exact o_store31 rfl rfl rfl rfl rfl
                                      exact Walk.nil _
                                    case hck => kernel_rfl
                                    case hQ =>
                                      intro ρ A w1 h
                                      apply seq_dag hmix h
                                      case hw =>
                                        apply Walk.cons
                                        · first | exact o_load31 rfl rfl rfl rfl | exact o_load31op rfl rfl rfl rfl
                                        apply Walk.cons
                                        · exact o_alloc31 18 rfl rfl
                                        apply Walk.cons
                                        · exact o_store31 rfl rfl rfl rfl rfl
                                        exact Walk.nil _
                                      case hck => kernel_rfl
                                      case hQ =>
                                        intro ρ A w1 h
                                        apply seq_dag hmix h
                                        case hw =>
                                          apply Walk.cons
                                          · first | exact ok_fld rfl rfl rfl fo31_1 rfl | exact ok_fld_v rfl rfl rfl fo31_1 rfl
                                          apply Walk.cons
                                          · exact ok_load_cell rfl rfl rfl rfl one3 rfl
                                          apply Walk.cons
                                          · exact o_bin rfl rfl rfl rfl (r_quoi (a := p.bn) (b := 8) (by decide) (by omega))
                                          apply Walk.cons
                                          · first | exact ok_fld rfl rfl rfl fo31_1 rfl | exact ok_fld_v rfl rfl rfl fo31_1 rfl
                                          apply Walk.cons
                                          · exact ok_load_cell rfl rfl rfl rfl one3 rfl
                                          apply Walk.cons
                                          · exact o_bin rfl rfl rfl rfl (r_quoi (a := p.bn) (b := 8) (by decide) (by omega))
                                          apply Walk.cons
                                          · first | exact ok_fld rfl rfl rfl fo31_0 rfl | exact ok_fld_v rfl rfl rfl fo31_0 rfl
                                          apply Walk.cons
                                          · first | exact ok_fld rfl rfl rfl fo24_1 rfl | exact ok_fld_v rfl rfl rfl fo24_1 rfl
                                          apply Walk.cons
                                          · exact o_at22 rfl rfl rfl (j := p.bn / 8) rfl rfl (by omega)
                                          apply Walk.cons
                                          · exact o_load5p rfl rfl rfl rfl (j := p.bn / 8) (by omega)
                                          apply Walk.cons
                                          · first | exact ok_fld rfl rfl rfl fo31_1 rfl | exact ok_fld_v rfl rfl rfl fo31_1 rfl
                                          apply Walk.cons
                                          · exact ok_load_cell rfl rfl rfl rfl one3 rfl
                                          apply Walk.cons
                                          · exact o_bin rfl rfl rfl rfl (r_remi (a := p.bn) (b := 8) (by decide))
                                          apply Walk.cons
                                          · exact o_conv rfl rfl rfl (by kernel_rfl) Try.underlying42 (c := ((p.bn % 8 : Nat) : Int)) (by rw [IntKind.wrap_u64]; omega)
                                          apply Walk.cons
                                          · exact o_bin rfl rfl rfl rfl (r_shr128 (s := p.bn % 8) .u64 (by omega))
                                          apply Walk.cons
                                          · exact o_bin rfl rfl rfl rfl (r_addb hbyte)
                                          apply Walk.cons
                                          · first | exact ok_fld rfl rfl rfl fo31_0 rfl | exact ok_fld_v rfl rfl rfl fo31_0 rfl
                                          apply Walk.cons
                                          · first | exact ok_fld rfl rfl rfl fo24_1 rfl | exact ok_fld_v rfl rfl rfl fo24_1 rfl
                                          apply Walk.cons
                                          · exact o_at22 rfl rfl rfl (j := p.bn / 8) rfl rfl (by omega)
                                          apply Walk.cons
                                          · exact o_store5p rfl rfl rfl rfl rfl (j := p.bn / 8) (by omega) hbyte
                                          exact Walk.nil _
                                        case hck => kernel_rfl
                                        case hQ =>
                                          intro ρ A w1 h
                                          obtain ⟨lo, hloe⟩ : ∃ lo, topN p.n p.bn = lo := ⟨_, rfl⟩
                                          obtain ⟨hi, hhie⟩ : ∃ hi, topN p.n p.bn + 2 ^ (127 - p.bn) = hi := ⟨_, rfl⟩
                                          have hset := high_set hpok.lt hb128
                                          rw [hhie] at hset
                                          have hwl := low_whole p.n p.bn hb128
                                          have hwh := high_whole p.n p.bn hb128
                                          have htlo := low_top p.n p.bn hb128
                                          have hthi := high_top p.n p.bn hb128
                                          have hhilt : hi < 2 ^ 128 := by rw [← hset]; exact setB_lt _ _ _ hbyte
                                          have h := h.plain ⟨[(2, .v (.slice ad2 addrs.length cap2)), (8, .p 30 0), (9, .p 31 0), (10, lsl m c), (14, .v (.int .i64 (k : Nat))), (17, .p 17 0), (18, .p 18 0)], [(30, .ext (tabA Tab.nil)), (31, .ext (tabA Tab.nil)), (98, .ext (listA m c)), (17, .mk (pfc p.v lo ((p.bn + 1 : Nat) : Int)) 31), (18, .mk (pfc p.v hi ((p.bn + 1 : Nat) : Int)) 31)]⟩ ⟨rfl, rfl, rfl, rfl, rfl, rfl, rfl, trivial⟩ ⟨rfl, rfl, rfl, by rw [← hloe]; rfl, by rw [← hset]; rfl, trivial⟩ rfl
                                          rw [hhie] at hwh hthi
                                          rw [hloe] at hwl htlo htl
                                          clear hset hbyte
                                          refine wp_seq ?_
                                          apply seq_dag hmix h
                                          case hw =>
                                            apply Walk.cons
                                            · exact ok_assign rfl rfl rfl
                                            exact Walk.nil _
                                          case hck => kernel_rfl
                                          case hQ =>
                                            intro ρ A w1 h
                                            refine wp_block ?_
                                            refine rep_loop_by (fun (i : Nat) => m.length - i) (fun (i : Nat) => (⟨[(2, .v (.slice ad2 addrs.length cap2)), (8, .p 30 0), (9, .p 31 0), (10, lsl m c), (14, .v (.int .i64 (k : Nat))), (17, .p 17 0), (18, .p 18 0), (19, .v (.int .i64 (i : Nat)))], [(30, .ext (tabA Tab.nil)), (31, .ext (tabA Tab.nil)), (98, .ext (listA m c)), (17, .mk (pfc p.v lo ((p.bn + 1 : Nat) : Int)) 31), (18, .mk (pfc p.v hi ((p.bn + 1 : Nat) : Int)) 31)]⟩ : St)) (fun (i : Nat) => i ≤ m.length ∧ ∀ (j : Nat) (q : OpR), j < i → m[j]? = some q → j ≠ k → ¬ q.key p.v (p.bn + 1) (2 * topD p.n p.bn) ∧ ¬ q.key p.v (p.bn + 1) (2 * topD p.n p.bn + 1)) 0 ⟨Nat.zero_le _, fun j q hj => absurd hj (Nat.not_lt_zero j)⟩ (h.plain _ ⟨rfl, rfl, rfl, rfl, rfl, rfl, rfl, rfl, trivial⟩ ⟨rfl, rfl, rfl, rfl, rfl, trivial⟩ rfl) ?_
                                            clear h
                                            rintro i ρ A w4 ⟨hi1, hkeys⟩ h
                                            by_cases hil : i < m.length
                                            · refine wp_seq ?_
                                              apply seq_dag hmix h
                                              case hw =>
                                                apply Walk.cons
                                                · exact ok_move rfl rfl rfl
                                                apply Walk.cons
                                                · exact ok_move rfl rfl rfl
                                                apply Walk.cons
                                                · exact o_llen rfl rfl rfl
                                                apply Walk.cons
                                                · exact o_bin rfl rfl rfl rfl (r_lss (a := i) (b := m.length) (decide_eq_true hil))
                                                exact Walk.nil _
                                              case hck => kernel_rfl
                                              case hQ =>
                                                intro ρ A w1 h
                                                refine if_true' h rfl (wp_skip ?_)
                                                refine Exit.then_normal ?_
                                                refine wp_seq (wp_block ?_)
                                                obtain ⟨q, hq⟩ : ∃ q, m[i]? = some q := ⟨_, List.getElem?_eq_getElem hil⟩
                                                have hqok := hmok i q hq
                                                apply seq_dag hmix h
                                                case hw =>
                                                  apply Walk.cons
                                                  · exact ok_move rfl rfl rfl
                                                  apply Walk.cons
                                                  · exact ok_move rfl rfl rfl
                                                  apply Walk.cons
                                                  · exact o_lat rfl rfl rfl rfl hil
                                                  apply Walk.cons
                                                  · exact ok_fld rfl rfl rfl fo40_2 rfl
                                                  apply Walk.cons
                                                  · exact o_ll31 rfl rfl rfl rfl hq
                                                  apply Walk.cons
                                                  · exact ok_call_val rfl rfl fn14 [.v _] rfl (rd := []) (fun _ w _ _ => wholeR hqok w)
                                                  apply Walk.cons
                                                  · exact o_alloc31 20 rfl rfl
                                                  apply Walk.cons
                                                  · exact o_store31 rfl rfl rfl rfl rfl
                                                  exact Walk.nil _
                                                case hck => kernel_rfl
                                                case hQ =>
                                                  intro ρ A w1 h
                                                  have hql := topN_lt (b := q.bn) hqok.lt
                                                  have hk1 := whole_eq (v := q.v) (v' := p.v) (n := q.n) (n' := lo) (b := q.bn) (b' := p.bn + 1) (Nat.le_trans hqok.le (mostA_le _))
                                                  have hk2 := whole_eq (v := q.v) (v' := p.v) (n := q.n) (n' := hi) (b := q.bn) (b' := p.bn + 1) (Nat.le_trans hqok.le (mostA_le _))
                                                  rw [hwl, htlo] at hk1
                                                  rw [hwh, hthi] at hk2
                                                  have hgo : (i ≠ k → ¬ q.key p.v (p.bn + 1) (2 * topD p.n p.bn) ∧ ¬ q.key p.v (p.bn + 1) (2 * topD p.n p.bn + 1)) → ∀ (j : Nat) (x : OpR), j < i + 1 → m[j]? = some x → j ≠ k → ¬ x.key p.v (p.bn + 1) (2 * topD p.n p.bn) ∧ ¬ x.key p.v (p.bn + 1) (2 * topD p.n p.bn + 1) := by
                                                    intro hx j x hj hjx hjk
                                                    by_cases e : j = i
                                                    · subst e
                                                      rw [hq] at hjx
                                                      cases hjx
                                                      exact hx hjk
                                                    · exact hkeys j x (by omega) hjx hjk
                                                  by_cases hik : i = k
                                                  · apply seq_dag hmix h
                                                    case hw =>
                                                      apply Walk.cons
                                                      · exact ok_move rfl rfl rfl
                                                      apply Walk.cons
                                                      · exact ok_move rfl rfl rfl
                                                      apply Walk.cons
                                                      · exact o_bin rfl rfl rfl rfl (r_neqi (a := i) (b := k) (decide_eq_false (fun hne => hne hik)))
                                                      apply Walk.cons
                                                      · exact ok_move rfl rfl rfl
                                                      apply Walk.cons
                                                      · first | exact ok_skip rfl | exact ok_skip_u rfl | exact o_load31 rfl rfl rfl rfl | exact o_load31op rfl rfl rfl rfl
                                                      apply Walk.cons
                                                      · first | exact ok_skip rfl | exact ok_skip_u rfl | exact o_load31 rfl rfl rfl rfl | exact o_load31op rfl rfl rfl rfl
                                                      apply Walk.cons
                                                      · first | exact ok_skip rfl | exact ok_skip_u rfl | exact o_eql31 rfl rfl rfl rfl hql htl rfl
                                                      apply Walk.cons
                                                      · first | exact ok_skip rfl | exact ok_skip_u rfl | exact ok_move rfl rfl rfl
                                                      apply Walk.cons
                                                      · first | exact ok_skip rfl | exact ok_skip_u rfl | exact o_load31 rfl rfl rfl rfl | exact o_load31op rfl rfl rfl rfl
                                                      apply Walk.cons
                                                      · first | exact ok_skip rfl | exact ok_skip_u rfl | exact o_load31 rfl rfl rfl rfl | exact o_load31op rfl rfl rfl rfl
                                                      apply Walk.cons
                                                      · first | exact ok_skip rfl | exact ok_skip_u rfl | exact o_eql31 rfl rfl rfl rfl hql hhilt rfl
                                                      apply Walk.cons
                                                      · first | exact ok_skip rfl | exact ok_skip_u rfl | exact ok_pick_true rfl rfl rfl rfl | exact ok_pick_false rfl rfl rfl rfl
                                                      apply Walk.cons
                                                      · first | exact ok_pick_true rfl rfl rfl rfl | exact ok_pick_false rfl rfl rfl rfl
                                                      exact Walk.nil _
                                                    case hck => kernel_rfl
                                                    case hQ =>
                                                      intro ρ A w1 h
                                                      refine if_false' h rfl (wp_skip ?_)
                                                      refine Exit.block_normal (Exit.then_normal ?_)
                                                      apply region_dag hmix h
                                                      case hw =>
                                                        apply Walk.cons
                                                        · exact ok_move rfl rfl rfl
                                                        apply Walk.cons
                                                        · exact o_bin rfl rfl rfl rfl (r_addi (a := i) (b := 1) (by omega))
                                                        apply Walk.cons
                                                        · exact ok_assign rfl rfl rfl
                                                        exact Walk.nil _
                                                      case hck => kernel_rfl
                                                      case hQ =>
                                                        intro ρ A w1 h
                                                        exact ⟨i + 1, _, by omega, ⟨by omega, hgo (fun hne => absurd hik hne)⟩, h.plain _ ⟨rfl, rfl, rfl, rfl, rfl, rfl, rfl, rfl, trivial⟩ ⟨rfl, rfl, rfl, rfl, rfl, trivial⟩ rfl⟩
                                                  · cases hd1 : decide (q.v = p.v ∧ topN q.n q.bn = lo ∧ ((q.bn : Nat) : Int) = ((p.bn + 1 : Nat) : Int)) with
                                                    | true =>
                                                      apply seq_dag hmix h
                                                      case hw =>
                                                        apply Walk.cons
                                                        · exact ok_move rfl rfl rfl
                                                        apply Walk.cons
                                                        · exact ok_move rfl rfl rfl
                                                        apply Walk.cons
                                                        · exact o_bin rfl rfl rfl rfl (r_neqi (a := i) (b := k) (decide_eq_true hik))
                                                        apply Walk.cons
                                                        · exact ok_move rfl rfl rfl
                                                        apply Walk.cons
                                                        · first | exact ok_skip rfl | exact ok_skip_u rfl | exact o_load31 rfl rfl rfl rfl | exact o_load31op rfl rfl rfl rfl
                                                        apply Walk.cons
                                                        · first | exact ok_skip rfl | exact ok_skip_u rfl | exact o_load31 rfl rfl rfl rfl | exact o_load31op rfl rfl rfl rfl
                                                        apply Walk.cons
                                                        · first | exact ok_skip rfl | exact ok_skip_u rfl | exact o_eql31 rfl rfl rfl rfl hql htl hd1
                                                        apply Walk.cons
                                                        · first | exact ok_skip rfl | exact ok_skip_u rfl | exact ok_move rfl rfl rfl
                                                        apply Walk.cons
                                                        · first | exact ok_skip rfl | exact ok_skip_u rfl | exact o_load31 rfl rfl rfl rfl | exact o_load31op rfl rfl rfl rfl
                                                        apply Walk.cons
                                                        · first | exact ok_skip rfl | exact ok_skip_u rfl | exact o_load31 rfl rfl rfl rfl | exact o_load31op rfl rfl rfl rfl
                                                        apply Walk.cons
                                                        · first | exact ok_skip rfl | exact ok_skip_u rfl | exact o_eql31 rfl rfl rfl rfl hql hhilt rfl
                                                        apply Walk.cons
                                                        · first | exact ok_skip rfl | exact ok_skip_u rfl | exact ok_pick_true rfl rfl rfl rfl | exact ok_pick_false rfl rfl rfl rfl
                                                        apply Walk.cons
                                                        · first | exact ok_pick_true rfl rfl rfl rfl | exact ok_pick_false rfl rfl rfl rfl
                                                        exact Walk.nil _
                                                      case hck => kernel_rfl
                                                      case hQ =>
                                                        intro ρ A w1 h
                                                        refine if_true' h rfl ?_
                                                        apply seq_dag hmix h
                                                        case hw =>
                                                          apply Walk.cons
                                                          · exact ok_assign rfl rfl rfl
                                                          exact Walk.nil _
                                                        case hck => kernel_rfl
                                                        case hQ =>
                                                          intro ρ A w1 h
                                                          refine wp_ret ?_
                                                          repeat (first | refine Exit.thenRet ?_ | refine Exit.blockRet ?_)
                                                          refine h.result_tmp Try.results4 rfl ?_
                                                          exact ⟨rfl, h.below⟩
                                                    | false =>
                                                      cases hd2 : decide (q.v = p.v ∧ topN q.n q.bn = hi ∧ ((q.bn : Nat) : Int) = ((p.bn + 1 : Nat) : Int)) with
                                                      | true =>
                                                        apply seq_dag hmix h
                                                        case hw =>
                                                          apply Walk.cons
                                                          · exact ok_move rfl rfl rfl
                                                          apply Walk.cons
                                                          · exact ok_move rfl rfl rfl
                                                          apply Walk.cons
                                                          · exact o_bin rfl rfl rfl rfl (r_neqi (a := i) (b := k) (decide_eq_true hik))
                                                          apply Walk.cons
                                                          · exact ok_move rfl rfl rfl
                                                          apply Walk.cons
                                                          · first | exact ok_skip rfl | exact ok_skip_u rfl | exact o_load31 rfl rfl rfl rfl | exact o_load31op rfl rfl rfl rfl
                                                          apply Walk.cons
                                                          · first | exact ok_skip rfl | exact ok_skip_u rfl | exact o_load31 rfl rfl rfl rfl | exact o_load31op rfl rfl rfl rfl
                                                          apply Walk.cons
                                                          · first | exact ok_skip rfl | exact ok_skip_u rfl | exact o_eql31 rfl rfl rfl rfl hql htl hd1
                                                          apply Walk.cons
                                                          · first | exact ok_skip rfl | exact ok_skip_u rfl | exact ok_move rfl rfl rfl
                                                          apply Walk.cons
                                                          · first | exact ok_skip rfl | exact ok_skip_u rfl | exact o_load31 rfl rfl rfl rfl | exact o_load31op rfl rfl rfl rfl
                                                          apply Walk.cons
                                                          · first | exact ok_skip rfl | exact ok_skip_u rfl | exact o_load31 rfl rfl rfl rfl | exact o_load31op rfl rfl rfl rfl
                                                          apply Walk.cons
                                                          · first | exact ok_skip rfl | exact ok_skip_u rfl | exact o_eql31 rfl rfl rfl rfl hql hhilt hd2
                                                          apply Walk.cons
                                                          · first | exact ok_skip rfl | exact ok_skip_u rfl | exact ok_pick_true rfl rfl rfl rfl | exact ok_pick_false rfl rfl rfl rfl
                                                          apply Walk.cons
                                                          · first | exact ok_pick_true rfl rfl rfl rfl | exact ok_pick_false rfl rfl rfl rfl
                                                          exact Walk.nil _
                                                        case hck => kernel_rfl
                                                        case hQ =>
                                                          intro ρ A w1 h
                                                          refine if_true' h rfl ?_
                                                          apply seq_dag hmix h
                                                          case hw =>
                                                            apply Walk.cons
                                                            · exact ok_assign rfl rfl rfl
                                                            exact Walk.nil _
                                                          case hck => kernel_rfl
                                                          case hQ =>
                                                            intro ρ A w1 h
                                                            refine wp_ret ?_
                                                            repeat (first | refine Exit.thenRet ?_ | refine Exit.blockRet ?_)
                                                            refine h.result_tmp Try.results4 rfl ?_
                                                            exact ⟨rfl, h.below⟩
                                                      | false =>
                                                        apply seq_dag hmix h
                                                        case hw =>
                                                          apply Walk.cons
                                                          · exact ok_move rfl rfl rfl
                                                          apply Walk.cons
                                                          · exact ok_move rfl rfl rfl
                                                          apply Walk.cons
                                                          · exact o_bin rfl rfl rfl rfl (r_neqi (a := i) (b := k) (decide_eq_true hik))
                                                          apply Walk.cons
                                                          · exact ok_move rfl rfl rfl
                                                          apply Walk.cons
                                                          · first | exact ok_skip rfl | exact ok_skip_u rfl | exact o_load31 rfl rfl rfl rfl | exact o_load31op rfl rfl rfl rfl
                                                          apply Walk.cons
                                                          · first | exact ok_skip rfl | exact ok_skip_u rfl | exact o_load31 rfl rfl rfl rfl | exact o_load31op rfl rfl rfl rfl
                                                          apply Walk.cons
                                                          · first | exact ok_skip rfl | exact ok_skip_u rfl | exact o_eql31 rfl rfl rfl rfl hql htl hd1
                                                          apply Walk.cons
                                                          · first | exact ok_skip rfl | exact ok_skip_u rfl | exact ok_move rfl rfl rfl
                                                          apply Walk.cons
                                                          · first | exact ok_skip rfl | exact ok_skip_u rfl | exact o_load31 rfl rfl rfl rfl | exact o_load31op rfl rfl rfl rfl
                                                          apply Walk.cons
                                                          · first | exact ok_skip rfl | exact ok_skip_u rfl | exact o_load31 rfl rfl rfl rfl | exact o_load31op rfl rfl rfl rfl
                                                          apply Walk.cons
                                                          · first | exact ok_skip rfl | exact ok_skip_u rfl | exact o_eql31 rfl rfl rfl rfl hql hhilt hd2
                                                          apply Walk.cons
                                                          · first | exact ok_skip rfl | exact ok_skip_u rfl | exact ok_pick_true rfl rfl rfl rfl | exact ok_pick_false rfl rfl rfl rfl
                                                          apply Walk.cons
                                                          · first | exact ok_pick_true rfl rfl rfl rfl | exact ok_pick_false rfl rfl rfl rfl
                                                          exact Walk.nil _
                                                        case hck => kernel_rfl
                                                        case hQ =>
                                                          intro ρ A w1 h
                                                          refine if_false' h rfl (wp_skip ?_)
                                                          refine Exit.block_normal (Exit.then_normal ?_)
                                                          apply region_dag hmix h
                                                          case hw =>
                                                            apply Walk.cons
                                                            · exact ok_move rfl rfl rfl
                                                            apply Walk.cons
                                                            · exact o_bin rfl rfl rfl rfl (r_addi (a := i) (b := 1) (by omega))
                                                            apply Walk.cons
                                                            · exact ok_assign rfl rfl rfl
                                                            exact Walk.nil _
                                                          case hck => kernel_rfl
                                                          case hQ =>
                                                            intro ρ A w1 h
                                                            exact ⟨i + 1, _, by omega, ⟨by omega, hgo (fun _ => ⟨fun hx => of_decide_eq_false hd1 (hk1.2 hx), fun hx => of_decide_eq_false hd2 (hk2.2 hx)⟩)⟩, h.plain _ ⟨rfl, rfl, rfl, rfl, rfl, rfl, rfl, rfl, trivial⟩ ⟨rfl, rfl, rfl, rfl, rfl, trivial⟩ rfl⟩
                                            · obtain rfl : i = m.length := by omega
                                              refine wp_seq ?_
                                              apply seq_dag hmix h
                                              case hw =>
                                                apply Walk.cons
                                                · exact ok_move rfl rfl rfl
                                                apply Walk.cons
                                                · exact ok_move rfl rfl rfl
                                                apply Walk.cons
                                                · exact o_llen rfl rfl rfl
                                                apply Walk.cons
                                                · exact o_bin rfl rfl rfl rfl (r_lss (a := m.length) (b := m.length) (decide_eq_false hil))
                                                exact Walk.nil _
                                              case hck => kernel_rfl
                                              case hQ =>
                                                intro ρ A w1 h
                                                refine if_false' h rfl (wp_exit (at_exit' ?_))
                                                refine Exit.then_normal ?_
                                                have hno : ∀ (j : Nat) (q : OpR), m[j]? = some q → j ≠ k → ¬ q.key p.v (p.bn + 1) (2 * topD p.n p.bn) ∧ ¬ q.key p.v (p.bn + 1) (2 * topD p.n p.bn + 1) := fun j q hq hjk => hkeys j q (List.getElem?_eq_some_iff.1 hq).1 hq hjk
                                                clear hkeys hil hi1
                                                refine wp_seq ?_
                                                apply seq_dag hmix h
                                                case hw =>
                                                  apply Walk.cons
                                                  · exact ok_assign rfl rfl rfl
                                                  exact Walk.nil _
                                                case hck => kernel_rfl
                                                case hQ =>
                                                  intro ρ A w1 h
                                                  refine wp_block ?_
                                                  refine rep_loop_by (fun (x : Nat × Tab × Tab) => m.length - x.1) (fun (x : Nat × Tab × Tab) => (⟨[(2, .v (.slice ad2 addrs.length cap2)), (8, .p 30 0), (9, .p 31 0), (10, lsl m c), (14, .v (.int .i64 (k : Nat))), (17, .p 17 0), (18, .p 18 0), (21, .v (.int .i64 (x.1 : Nat)))], [(30, .ext (tabA x.2.1)), (31, .ext (tabA x.2.2)), (98, .ext (listA m c)), (17, .mk (pfc p.v lo ((p.bn + 1 : Nat) : Int)) 31), (18, .mk (pfc p.v hi ((p.bn + 1 : Nat) : Int)) 31)]⟩ : St)) (fun (x : Nat × Tab × Tab) => x.1 ≤ m.length ∧ Owns x.2.1 m (fun j => j < x.1) ∧ x.2.1.cnt = x.1 ∧ Owns x.2.2 m (fun j => j < x.1 ∧ j ≠ k) ∧ x.2.2.cnt = (if k < x.1 then x.1 - 1 else x.1)) (0, Tab.nil, Tab.nil) ⟨Nat.zero_le _, (Owns.start m).congr (fun j p _ => ⟨fun hx => hx.elim, fun hx => absurd hx (Nat.not_lt_zero j)⟩), rfl, (Owns.start m).congr (fun j p _ => ⟨fun hx => hx.elim, fun hx => absurd hx.1 (Nat.not_lt_zero j)⟩), (if_neg (Nat.not_lt_zero k)).symm⟩ (h.plain _ ⟨rfl, rfl, rfl, rfl, rfl, rfl, rfl, rfl, trivial⟩ ⟨rfl, rfl, rfl, rfl, rfl, trivial⟩ rfl) ?_
                                                  clear h
                                                  rintro ⟨i, TA, TB⟩ ρ act w4 ⟨hi1, hA, hAc, hB, hBc⟩ h
                                                  simp only at hi1 hA hAc hB hBc h
                                                  by_cases hil : i < m.length
                                                  · refine wp_seq ?_
                                                    apply seq_dag hmix h
                                                    case hw =>
                                                      apply Walk.cons
                                                      · exact ok_move rfl rfl rfl
                                                      apply Walk.cons
                                                      · exact ok_move rfl rfl rfl
                                                      apply Walk.cons
                                                      · exact o_llen rfl rfl rfl
                                                      apply Walk.cons
                                                      · exact o_bin rfl rfl rfl rfl (r_lss (a := i) (b := m.length) (decide_eq_true hil))
                                                      exact Walk.nil _
                                                    case hck => kernel_rfl
                                                    case hQ =>
                                                      intro ρ A w1 h
                                                      refine if_true' h rfl (wp_skip ?_)
                                                      refine Exit.then_normal ?_
                                                      refine wp_seq (wp_block ?_)
                                                      obtain ⟨q, hq⟩ : ∃ q, m[i]? = some q := ⟨_, List.getElem?_eq_getElem hil⟩
                                                      have hqok := hmok i q hq
                                                      apply seq_dag hmix h
                                                      case hw =>
                                                        apply Walk.cons
                                                        · exact ok_move rfl rfl rfl
                                                        apply Walk.cons
                                                        · exact ok_move rfl rfl rfl
                                                        apply Walk.cons
                                                        · exact ok_move rfl rfl rfl
                                                        apply Walk.cons
                                                        · exact o_lat rfl rfl rfl rfl hil
                                                        apply Walk.cons
                                                        · exact ok_fld rfl rfl rfl fo40_2 rfl
                                                        apply Walk.cons
                                                        · exact o_ll31 rfl rfl rfl rfl hq
                                                        apply Walk.cons
                                                        · exact ok_move rfl rfl rfl
                                                        apply Walk.cons
                                                        · exact ok_move rfl rfl rfl
                                                        apply Walk.cons
                                                        · exact o_lat rfl rfl rfl rfl hil
                                                        apply Walk.cons
                                                        · exact ok_fld rfl rfl rfl fo40_1 rfl
                                                        apply Walk.cons
                                                        · exact o_ll3 rfl rfl rfl rfl hq
                                                        apply Walk.cons
                                                        · exact o_putR (p := q) (M := TA) rfl rfl rfl rfl hqok (by omega)
                                                        exact Walk.nil _
                                                      case hck => kernel_rfl
                                                      case hQ =>
                                                        intro ρ A w1 h
                                                        refine wp_fold (fun a w5 => ∃ B' ρ, (Owns B' m (fun j => j < i + 1 ∧ j ≠ k) ∧ B'.cnt = (if k < i + 1 then i + 1 - 1 else i + 1)) ∧ Rep 262 ⟨[(2, .v (.slice ad2 addrs.length cap2)), (8, .p 30 0), (9, .p 31 0), (10, lsl m c), (14, .v (.int .i64 (k : Nat))), (17, .p 17 0), (18, .p 18 0), (21, .v (.int .i64 (i : Nat)))], [(30, .ext (tabA (TA.putR q))), (31, .ext (tabA B')), (98, .ext (listA m c)), (17, .mk (pfc p.v lo ((p.bn + 1 : Nat) : Int)) 31), (18, .mk (pfc p.v hi ((p.bn + 1 : Nat) : Int)) 31)]⟩ ρ { W := w } a w5) ?_ ?_
                                                        · by_cases hik : i = k
                                                          · apply seq_dag hmix h
                                                            case hw =>
                                                              apply Walk.cons
                                                              · exact ok_move rfl rfl rfl
                                                              apply Walk.cons
                                                              · exact ok_move rfl rfl rfl
                                                              apply Walk.cons
                                                              · exact o_bin rfl rfl rfl rfl (r_neqi (a := i) (b := k) (decide_eq_false (fun hne => hne hik)))
                                                              exact Walk.nil _
                                                            case hck => kernel_rfl
                                                            case hQ =>
                                                              intro ρ A w1 h
                                                              refine if_false' h rfl (wp_skip (Exit.then_normal ?_))
                                                              exact ⟨TB, _, ⟨hB.congr (fun j x _ => by constructor <;> (intro hx; constructor <;> omega)), by rw [hBc, if_neg (by omega), if_pos (by omega)]; omega⟩, h.plain _ ⟨rfl, rfl, rfl, rfl, rfl, rfl, rfl, rfl, trivial⟩ ⟨rfl, rfl, rfl, rfl, rfl, trivial⟩ rfl⟩
                                                          · apply seq_dag hmix h
                                                            case hw =>
                                                              apply Walk.cons
                                                              · exact ok_move rfl rfl rfl
                                                              apply Walk.cons
                                                              · exact ok_move rfl rfl rfl
                                                              apply Walk.cons
                                                              · exact o_bin rfl rfl rfl rfl (r_neqi (a := i) (b := k) (decide_eq_true hik))
                                                              exact Walk.nil _
                                                            case hck => kernel_rfl
                                                            case hQ =>
                                                              intro ρ A w1 h
                                                              refine if_true' h rfl ?_
                                                              have hBl : TB.cnt < 64 := by rw [hBc]; split <;> omega
                                                              apply region_dag hmix h
                                                              case hw =>
                                                                apply Walk.cons
                                                                · exact ok_move rfl rfl rfl
                                                                apply Walk.cons
                                                                · exact ok_move rfl rfl rfl
                                                                apply Walk.cons
                                                                · exact ok_move rfl rfl rfl
                                                                apply Walk.cons
                                                                · exact o_lat rfl rfl rfl rfl hil
                                                                apply Walk.cons
                                                                · exact ok_fld rfl rfl rfl fo40_2 rfl
                                                                apply Walk.cons
                                                                · exact o_ll31 rfl rfl rfl rfl hq
                                                                apply Walk.cons
                                                                · exact ok_move rfl rfl rfl
                                                                apply Walk.cons
                                                                · exact ok_move rfl rfl rfl
                                                                apply Walk.cons
                                                                · exact o_lat rfl rfl rfl rfl hil
                                                                apply Walk.cons
                                                                · exact ok_fld rfl rfl rfl fo40_1 rfl
                                                                apply Walk.cons
                                                                · exact o_ll3 rfl rfl rfl rfl hq
                                                                apply Walk.cons
                                                                · exact o_putR (p := q) (M := TB) rfl rfl rfl rfl hqok hBl
                                                                exact Walk.nil _
                                                              case hck => kernel_rfl
                                                              case hQ =>
                                                                intro ρ A w1 h
                                                                refine Exit.then_normal ?_
                                                                have hBn := hB.cnt hmd hq (fun hx => by omega)
                                                                refine ⟨TB.putR q, _, ⟨(hB.put hmd hq).congr (fun j x _ => by constructor <;> omega), ?_⟩, h.plain _ ⟨rfl, rfl, rfl, rfl, rfl, rfl, rfl, rfl, trivial⟩ ⟨rfl, rfl, rfl, rfl, rfl, trivial⟩ rfl⟩
                                                                rw [hBn, hBc]
                                                                by_cases hki : k < i
                                                                · rw [if_pos hki, if_pos (by omega)]; omega
                                                                · rw [if_neg hki, if_neg (by omega)]
                                                        · rintro a w5 ⟨B', ρ, ⟨hB', hBc'⟩, h⟩
                                                          refine Exit.block_normal (Exit.then_normal ?_)
                                                          apply region_dag hmix h
                                                          case hw =>
                                                            apply Walk.cons
                                                            · exact ok_move rfl rfl rfl
                                                            apply Walk.cons
                                                            · exact o_bin rfl rfl rfl rfl (r_addi (a := i) (b := 1) (by omega))
                                                            apply Walk.cons
                                                            · exact ok_assign rfl rfl rfl
                                                            exact Walk.nil _
                                                          case hck => kernel_rfl
                                                          case hQ =>
                                                            intro ρ A w1 h
                                                            exact ⟨(i + 1, TA.putR q, B'), _, by simp only; omega, ⟨by simp only; omega, (hA.put hmd hq).congr (fun j x _ => by constructor <;> omega), by simp only; rw [hA.cnt hmd hq (Nat.lt_irrefl i), hAc], hB', hBc'⟩, h.plain _ ⟨rfl, rfl, rfl, rfl, rfl, rfl, rfl, rfl, trivial⟩ ⟨rfl, rfl, rfl, rfl, rfl, trivial⟩ rfl⟩
                                                  · obtain rfl : i = m.length := by omega
                                                    refine wp_seq ?_
                                                    apply seq_dag hmix h
                                                    case hw =>
                                                      apply Walk.cons
                                                      · exact ok_move rfl rfl rfl
                                                      apply Walk.cons
                                                      · exact ok_move rfl rfl rfl
                                                      apply Walk.cons
                                                      · exact o_llen rfl rfl rfl
                                                      apply Walk.cons
                                                      · exact o_bin rfl rfl rfl rfl (r_lss (a := m.length) (b := m.length) (decide_eq_false hil))
                                                      exact Walk.nil _
                                                    case hck => kernel_rfl
                                                    case hQ =>
                                                      intro ρ A w1 h
                                                      refine if_false' h rfl (wp_exit (at_exit' ?_))
                                                      refine Exit.then_normal ?_
                                                      rw [if_pos hk] at hBc
                                                      obtain ⟨hc1, hc2⟩ := halves_cnt hB hno htlo hthi
                                                      have hpl : isPfx p.v lo ((p.bn + 1 : Nat) : Int) = true := by
                                                        have hval := (isPfx_nat hpok.pfx).choose_spec.2.2
                                                        rw [isPfx, show validA p.v lo = true from by rw [← hloe]; exact valid_low hval, Bool.true_and, Bool.and_eq_true]
                                                        exact ⟨decide_eq_true (by omega), decide_eq_true (by omega)⟩
                                                      have hph : isPfx p.v hi ((p.bn + 1 : Nat) : Int) = true := by
                                                        have hval := (isPfx_nat hpok.pfx).choose_spec.2.2
                                                        rw [isPfx, show validA p.v hi = true from by rw [← hhie]; exact valid_high hval (by omega), Bool.true_and, Bool.and_eq_true]
                                                        exact ⟨decide_eq_true (by omega), decide_eq_true (by omega)⟩
                                                      apply seq_dag hmix h
                                                      case hw =>
                                                        apply Walk.cons
                                                        · exact ok_move rfl rfl rfl
                                                        apply Walk.cons
                                                        · first | exact o_load31 rfl rfl rfl rfl | exact o_load31op rfl rfl rfl rfl
                                                        apply Walk.cons
                                                        · exact ok_move rfl rfl rfl
                                                        apply Walk.cons
                                                        · exact ok_move rfl rfl rfl
                                                        apply Walk.cons
                                                        · exact o_lat rfl rfl rfl rfl hk
                                                        apply Walk.cons
                                                        · exact ok_fld rfl rfl rfl fo40_1 rfl
                                                        apply Walk.cons
                                                        · exact o_ll3 rfl rfl rfl rfl hp1
                                                        apply Walk.cons
                                                        · exact o_put_ok (n := lo) (b := p.bn + 1) (M := TB) rfl rfl rfl rfl htl hpl (not_full (by omega))
                                                        exact Walk.nil _
                                                      case hck => kernel_rfl
                                                      case hQ =>
                                                        intro ρ A w1 h
                                                        apply seq_dag hmix h
                                                        case hw =>
                                                          apply Walk.cons
                                                          · exact ok_move rfl rfl rfl
                                                          apply Walk.cons
                                                          · first | exact o_load31 rfl rfl rfl rfl | exact o_load31op rfl rfl rfl rfl
                                                          apply Walk.cons
                                                          · exact ok_move rfl rfl rfl
                                                          apply Walk.cons
                                                          · exact ok_move rfl rfl rfl
                                                          apply Walk.cons
                                                          · exact o_lat rfl rfl rfl rfl hk
                                                          apply Walk.cons
                                                          · exact ok_fld rfl rfl rfl fo40_1 rfl
                                                          apply Walk.cons
                                                          · exact o_ll3 rfl rfl rfl rfl hp1
                                                          apply Walk.cons
                                                          · exact o_put_ok (n := hi) (b := p.bn + 1) (M := TB.put p.v lo (p.bn + 1) p.o) rfl rfl rfl rfl hhilt hph (not_full (by omega))
                                                          exact Walk.nil _
                                                        case hck => kernel_rfl
                                                        case hQ =>
                                                          intro ρ A w1 h
                                                          have hfind := halves hp1 hmd hA hB (by omega) hno htlo hthi
                                                          have hBB : ((TB.put p.v lo (p.bn + 1) p.o).put p.v hi (p.bn + 1) p.o).cnt = m.length + 1 := by omega
                                                          have h := h.plain ⟨[(2, .v (.slice ad2 addrs.length cap2)), (8, .p 30 0), (9, .p 31 0), (10, lsl m c)], [(30, .ext (tabA TA)), (31, .ext (tabA ((TB.put p.v lo (p.bn + 1) p.o).put p.v hi (p.bn + 1) p.o))), (98, .ext (listA m c))]⟩ ⟨rfl, rfl, rfl, rfl, trivial⟩ ⟨rfl, rfl, rfl, trivial⟩ rfl
                                                          generalize (TB.put p.v lo (p.bn + 1) p.o).put p.v hi (p.bn + 1) p.o = B2 at h hfind hBB
                                                          refine wp_seq ?_
                                                          apply seq_dag hmix h
                                                          case hw =>
                                                            apply Walk.cons
                                                            · exact ok_assign rfl rfl rfl
                                                            exact Walk.nil _
                                                          case hck => kernel_rfl
                                                          case hQ =>
                                                            intro ρ A w1 h
                                                            refine wp_block ?_
                                                            refine rep_loop addrs.length (fun (i : Nat) => (⟨[(2, .v (.slice ad2 addrs.length cap2)), (8, .p 30 0), (9, .p 31 0), (10, lsl m c), (22, .v (.int .i64 (i : Nat)))], [(30, .ext (tabA TA)), (31, .ext (tabA B2)), (98, .ext (listA m c))]⟩ : St)) (h.plain _ ⟨rfl, rfl, rfl, rfl, rfl, trivial⟩ ⟨rfl, rfl, rfl, trivial⟩ rfl) ?_
                                                            clear h
                                                            intro i ρ act w5 hia h
                                                            by_cases hil : i < addrs.length
                                                            · refine wp_seq ?_
                                                              apply seq_dag hmix h
                                                              case hw =>
                                                                apply Walk.cons
                                                                · exact ok_move rfl rfl rfl
                                                                apply Walk.cons
                                                                · exact ok_move rfl rfl rfl
                                                                apply Walk.cons
                                                                · exact ok_len_ro rfl rfl rfl u37
                                                                apply Walk.cons
                                                                · exact o_bin rfl rfl rfl rfl (r_lss (a := i) (b := addrs.length) (decide_eq_true hil))
                                                                exact Walk.nil _
                                                              case hck => kernel_rfl
                                                              case hQ =>
                                                                intro ρ A w1 h
                                                                refine if_true' h rfl (wp_skip ?_)
                                                                refine Exit.then_normal ?_
                                                                refine wp_seq (wp_block ?_)
                                                                obtain ⟨x, hx⟩ : ∃ x, addrs[i]? = some x := ⟨_, List.getElem?_eq_getElem hil⟩
                                                                obtain ⟨hxn, had2, hxc⟩ := hadr i x hx
                                                                obtain ⟨e1, e2⟩ := acO_map (fdA_map (hfind x.1 x.2))
                                                                apply seq_dag hmix h
                                                                case hw =>
                                                                  apply Walk.cons
                                                                  · exact ok_move rfl rfl rfl
                                                                  apply Walk.cons
                                                                  · exact ok_move rfl rfl rfl
                                                                  apply Walk.cons
                                                                  · exact ok_move rfl rfl rfl
                                                                  apply Walk.cons
                                                                  · exact o_rat rfl rfl rfl rfl u37 sz24 had2 (by omega)
                                                                  apply Walk.cons
                                                                  · exact o_a24 rfl rfl rfl (fun h => h) hxc
                                                                  apply Walk.cons
                                                                  · exact o_findV (n := x.2) (v := x.1) (M := TA) rfl rfl rfl rfl hxn
                                                                  apply Walk.cons
                                                                  · exact ok_move rfl rfl rfl
                                                                  apply Walk.cons
                                                                  · exact ok_extract rfl rfl rfl rfl
                                                                  apply Walk.cons
                                                                  · exact ok_extract rfl rfl rfl rfl
                                                                  apply Walk.cons
                                                                  · exact ok_extract rfl rfl rfl rfl
                                                                  apply Walk.cons
                                                                  · exact o_alloc31 24 rfl rfl
                                                                  apply Walk.cons
                                                                  · exact ok_assign rfl rfl rfl
                                                                  apply Walk.cons
                                                                  · exact o_store31 rfl rfl rfl rfl rfl
                                                                  apply Walk.cons
                                                                  · exact ok_assign rfl rfl rfl
                                                                  exact Walk.nil _
                                                                case hck => kernel_rfl
                                                                case hQ =>
                                                                  intro ρ A w1 h
                                                                  apply seq_dag hmix h
                                                                  case hw =>
                                                                    apply Walk.cons
                                                                    · exact ok_move rfl rfl rfl
                                                                    apply Walk.cons
                                                                    · exact ok_move rfl rfl rfl
                                                                    apply Walk.cons
                                                                    · exact ok_move rfl rfl rfl
                                                                    apply Walk.cons
                                                                    · exact o_rat rfl rfl rfl rfl u37 sz24 had2 (by omega)
                                                                    apply Walk.cons
                                                                    · exact o_a24 rfl rfl rfl (fun h => h) hxc
                                                                    apply Walk.cons
                                                                    · exact o_findV (n := x.2) (v := x.1) (M := B2) rfl rfl rfl rfl hxn
                                                                    apply Walk.cons
                                                                    · exact ok_move rfl rfl rfl
                                                                    apply Walk.cons
                                                                    · exact ok_extract rfl rfl rfl rfl
                                                                    apply Walk.cons
                                                                    · exact ok_extract rfl rfl rfl rfl
                                                                    apply Walk.cons
                                                                    · exact ok_extract rfl rfl rfl rfl
                                                                    apply Walk.cons
                                                                    · exact o_alloc31 27 rfl rfl
                                                                    apply Walk.cons
                                                                    · exact ok_assign rfl rfl rfl
                                                                    apply Walk.cons
                                                                    · exact o_store31 rfl rfl rfl rfl rfl
                                                                    apply Walk.cons
                                                                    · exact ok_assign rfl rfl rfl
                                                                    exact Walk.nil _
                                                                  case hck => kernel_rfl
                                                                  case hQ =>
                                                                    intro ρ A w1 h
                                                                    apply seq_dag hmix h
                                                                    case hw =>
                                                                      apply Walk.cons
                                                                      · exact ok_move rfl rfl rfl
                                                                      apply Walk.cons
                                                                      · exact ok_move rfl rfl rfl
                                                                      apply Walk.cons
                                                                      · exact o_bin rfl rfl rfl rfl (r_neqz (decide_eq_false (fun hne => hne e1)))
                                                                      apply Walk.cons
                                                                      · exact ok_move rfl rfl rfl
                                                                      apply Walk.cons
                                                                      · first | exact ok_skip rfl | exact ok_skip_u rfl | exact ok_move rfl rfl rfl
                                                                      apply Walk.cons
                                                                      · first | exact ok_skip rfl | exact ok_skip_u rfl | exact ok_move rfl rfl rfl
                                                                      apply Walk.cons
                                                                      · first | exact ok_skip rfl | exact ok_skip_u rfl | exact o_neqb rfl rfl rfl rfl (c := false) (by rw [e2]; simp)
                                                                      apply Walk.cons
                                                                      · first | exact ok_pick_true rfl rfl rfl rfl | exact ok_pick_false rfl rfl rfl rfl
                                                                      exact Walk.nil _
                                                                    case hck => kernel_rfl
                                                                    case hQ =>
                                                                      intro ρ A w1 h
                                                                      refine if_false' h rfl (wp_skip ?_)
                                                                      refine Exit.block_normal (Exit.then_normal ?_)
                                                                      apply region_dag hmix h
                                                                      case hw =>
                                                                        apply Walk.cons
                                                                        · exact ok_move rfl rfl rfl
                                                                        apply Walk.cons
                                                                        · exact o_bin rfl rfl rfl rfl (r_addi (a := i) (b := 1) (by omega))
                                                                        apply Walk.cons
                                                                        · exact ok_assign rfl rfl rfl
                                                                        exact Walk.nil _
                                                                      case hck => kernel_rfl
                                                                      case hQ =>
                                                                        intro ρ A w1 h
                                                                        exact ⟨_, hil, h.plain _ ⟨rfl, rfl, rfl, rfl, rfl, trivial⟩ ⟨rfl, rfl, rfl, trivial⟩ rfl⟩
                                                            · obtain rfl : i = addrs.length := by omega
                                                              refine wp_seq ?_
                                                              apply seq_dag hmix h
                                                              case hw =>
                                                                apply Walk.cons
                                                                · exact ok_move rfl rfl rfl
                                                                apply Walk.cons
                                                                · exact ok_move rfl rfl rfl
                                                                apply Walk.cons
                                                                · exact ok_len_ro rfl rfl rfl u37
                                                                apply Walk.cons
                                                                · exact o_bin rfl rfl rfl rfl (r_lss (a := addrs.length) (b := addrs.length) (decide_eq_false hil))
                                                                exact Walk.nil _
                                                              case hck => kernel_rfl
                                                              case hQ =>
                                                                intro ρ A w1 h
                                                                refine if_false' h rfl (wp_exit (at_exit' ?_))
                                                                refine Exit.then_normal ?_
                                                                apply seq_dag hmix h
                                                                case hw =>
                                                                  apply Walk.cons
                                                                  · exact ok_move rfl rfl rfl
                                                                  apply Walk.cons
                                                                  · exact o_len (M := TA) (c := m.length) rfl rfl rfl rfl hAc
                                                                  apply Walk.cons
                                                                  · exact ok_move rfl rfl rfl
                                                                  apply Walk.cons
                                                                  · exact o_llen rfl rfl rfl
                                                                  apply Walk.cons
                                                                  · exact o_bin rfl rfl rfl rfl (r_eqli (a := m.length) (b := m.length) (decide_eq_true rfl))
                                                                  apply Walk.cons
                                                                  · exact ok_move rfl rfl rfl
                                                                  apply Walk.cons
                                                                  · first | exact ok_skip rfl | exact ok_skip_u rfl | exact ok_move rfl rfl rfl
                                                                  apply Walk.cons
                                                                  · first | exact ok_skip rfl | exact ok_skip_u rfl | exact o_len (M := B2) (c := m.length + 1) rfl rfl rfl rfl hBB
                                                                  apply Walk.cons
                                                                  · first | exact ok_skip rfl | exact ok_skip_u rfl | exact ok_move rfl rfl rfl
                                                                  apply Walk.cons
                                                                  · first | exact ok_skip rfl | exact ok_skip_u rfl | exact o_llen rfl rfl rfl
                                                                  apply Walk.cons
                                                                  · first | exact ok_skip rfl | exact ok_skip_u rfl | exact o_bin rfl rfl rfl rfl (r_addi (a := m.length) (b := 1) (by omega))
                                                                  apply Walk.cons
                                                                  · first | exact ok_skip rfl | exact ok_skip_u rfl | exact o_bin rfl rfl rfl rfl (r_eqli (a := m.length + 1) (b := m.length + 1) (decide_eq_true rfl))
                                                                  apply Walk.cons
                                                                  · first | exact ok_pick_true rfl rfl rfl rfl | exact ok_pick_false rfl rfl rfl rfl
                                                                  apply Walk.cons
                                                                  · exact ok_assign rfl rfl rfl
                                                                  exact Walk.nil _
                                                                case hck => kernel_rfl
                                                                case hQ =>
                                                                  intro ρ A w1 h
                                                                  refine wp_ret ?_
                                                                  repeat (first | refine Exit.thenRet ?_ | refine Exit.blockRet ?_)
                                                                  refine h.result_tmp Try.results4 rfl ?_
                                                                  exact ⟨rfl, h.below⟩
end Go.Proofs.Ytnppgaohfegloaa
