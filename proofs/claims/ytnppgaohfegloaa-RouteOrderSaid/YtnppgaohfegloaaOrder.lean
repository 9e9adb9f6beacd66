/-
  aditlaw10.RouteOrder: what it hands back is true, for any calls and any addresses.
-/
import Derived.Test.YtnppgaohfegloaaDrop
namespace Go.Proofs.Ytnppgaohfegloaa
open Go.RowKit

theorem Owns.drop {M : Tab} {l : List OpR} {P : Nat → Prop} (h : Owns M l P) (hd : Dist l) {i : Nat} {p : OpR} (hi : l[i]? = some p) : Owns (M.drop p.v p.n p.bn) l (fun j => P j ∧ j ≠ i) := by
  intro v d m o
  by_cases hk : v = p.v ∧ d = p.bn ∧ m = topD p.n p.bn
  · obtain ⟨rfl, rfl, rfl⟩ := hk
    have e : (M.drop p.v p.n p.bn).own p.v p.bn (topD p.n p.bn) = none := updK_same _ _ _ _ _
    rw [e]
    constructor
    · intro ho; cases ho
    · rintro ⟨j, q, h1, h2, h3, _⟩
      exact absurd (hd j i q p h2 hi h3) h1.2
  · have e : (M.drop p.v p.n p.bn).own v d m = M.own v d m := updK_ne _ _ hk
    rw [e, h v d m o]
    constructor
    · rintro ⟨j, q, h1, h2, h3, h4⟩
      refine ⟨j, q, ⟨h1, fun e => hk ?_⟩, h2, h3, h4⟩
      subst e
      rw [hi] at h2
      cases h2
      exact ⟨h3.1.symm, h3.2.1.symm, h3.2.2.symm⟩
    · rintro ⟨j, q, h1, h2⟩
      exact ⟨j, q, h1.1, h2⟩
theorem Owns.find {A B : Tab} {l : List OpR} {P : Nat → Prop} (hA : Owns A l P) (hB : Owns B l P) (v : Bool) (x : Nat) : fdA A v x = fdA B v x := by
  have h : ∀ w d m, A.own w d m = B.own w d m := by
    intro w d m
    have hx : ∀ o, A.own w d m = some o ↔ B.own w d m = some o := fun o => by rw [hA, hB]
    cases h1 : B.own w d m with
    | none =>
      cases h2 : A.own w d m with
      | none => rfl
      | some o => rw [(hx o).1 h2] at h1; cases h1
    | some o => exact (hx o).2 h1
  unfold fdA
  split
  · exact bestTo_congr _ fun j _ => h v j _
  · rfl
theorem best_ge {M : Tab} {v : Bool} {x d : Nat} {o : Int} (h : M.own v d (topD x d) = some o) : ∀ k, d < k → ∃ d' o', M.bestTo v x k = some (d', o') ∧ d ≤ d'
  | 0, hk => absurd hk (Nat.not_lt_zero d)
  | k + 1, hk => by
    cases hk2 : M.own v k (topD x k) with
    | some o' => exact ⟨k, o', bestTo_some hk2, by omega⟩
    | none =>
      rw [bestTo_none hk2]
      have : d ≠ k := fun e => by rw [e, hk2] at h; cases h
      exact best_ge h k (by omega)
theorem has_find {A : Tab} {l : List OpR} {j : Nat} {p : OpR} (hA : Owns A l (fun j => j < l.length)) (hj : l[j]? = some p) (hok : p.Ok) {v : Bool} {x : Nat} (hx : x < 2 ^ 128) (hh : hasA p.v p.n p.bn v x) : ∃ d' o', fdA A v x = some (d', o') ∧ p.bn ≤ d' := by
  obtain ⟨rfl, h2, h3⟩ := hh
  have hl := hok.le
  have hm := mostA_le p.v
  have ht := has_top hok.lt hx p.bn (by omega) h3
  have ho : A.own p.v p.bn (topD x p.bn) = some p.o := (hA _ _ _ _).2 ⟨j, p, (List.getElem?_eq_some_iff.1 hj).1, hj, ⟨rfl, rfl, ht⟩, rfl⟩
  rw [fdA, if_pos h2]
  exact best_ge ho _ (by omega)
theorem acP_lt {v : Bool} {n : Nat} (hn : n < 2 ^ 128) (r : Option (Nat × Int)) : (acP v n r).2.1 < 2 ^ 128 := by
  cases r with
  | none => exact Nat.pow_pos (by decide)
  | some x => exact topN_lt hn
section
variable {F : Fr} {ops : Array Oper} {S : St} {o : Oper}
theorem o_dropR (hw : want ops S o = some true) {args : Array Operand} {ts : Array TypeId} (ho : o.op = .call { callee := .value (.func 15), args := args, argTypes := ts }) {i : Nat} {M : Tab} {p : OpR}
    (ha : args.toList.mapM S.av = some [.p i 0, .v (.agg (pfc p.v p.n p.b))]) (hb : S.blk i = some (.ext (tabA M))) (hok : p.Ok) (hown : M.own p.v p.bn (topD p.n p.bn) = some p.o) (h1 : 1 ≤ M.cnt) (h2 : M.cnt < 9223372036854775808) :
    OpOK Try.prog F ops o S { val := .v (.tuple #[.int .i64 p.o, .bool true]), wr := some (i, .ext (tabA (M.drop p.v p.n p.bn))), rd := [i] } := by
  rw [hok.bn] at ha
  exact ok_call hw ho fn15 _ ha fun ρ w h0 _ => (drop_yes p.v p.n p.bn hok.lt hok.pfx' hown h1 h2 w (h0 i (by simp) _ hb)).mono fun en w' h => by
    obtain ⟨rfl, f', h2, h3, h4⟩ := h
    exact ⟨_, ⟨0, f', fun _ => False⟩, rfl, rfl, h4.os, h4.tape, h4.output, h4.size, fun b hb hk => h4.block b hb (fun hT => hk _ rfl hT), fun y hy => by cases hy; exact ⟨h2, h3⟩, (fun _ h => by cases h), (fun _ _ _ h => by cases h)⟩
theorem o_findE (hw : want ops S o = some true) {args : Array Operand} {ts : Array TypeId} (ho : o.op = .call { callee := .value (.func 11), args := args, argTypes := ts }) {i n : Nat} {M : Tab} {v : Bool}
    (ha : args.toList.mapM S.av = some [.p i 0, .v (.agg (adc v n))]) (hb : S.blk i = some (.ext (tabA M))) (hn : n < 2 ^ 128) {r : Option (Nat × Int)} (hr : fdA M v n = r) :
    OpOK Try.prog F ops o S { val := .v (fdRes v n r), rd := [i] } := by
  subst hr
  exact o_findV hw ho ha hb hn
theorem o_ll3b (hw : want ops S o = some true) {x : Operand} (ho : o.op = .load 3 x) {m : List OpR} {c j : Nat} {p : OpR} (hx : S.av x = some (.p 98 (j * 20 + 2 + 17))) (hb : S.blk 98 = some (.ext (listA m c))) (hp' : m[j]? = some p) :
    OpOK Try.prog F ops o S { val := .v (.int .i64 p.b), rd := [98] } :=
  ok_value hw fun ρ a w h1 h2 _ => by
    have e1 := h1 x (by simp [ho, Op.operands]) _ hx
    have e2 := l_cell (i := 19) (h2 98 (by simp) _ hb) hp' (by decide)
    have e3 : w.cell? ⟨ρ 98, j * 20 + 2 + 17, none⟩ = some (.int .i64 p.b) := e2
    simp [execOp, ho, e1, Instr.loadAt, Instr.sureAddr, loadVar, run_isAgg_false one3, e3]
end
theorem r_gtri {P : Program} {t : TypeId} {k : IntKind} {a b : Int} {c : Bool} (h : decide (a > b) = c) (w : World) : (binOp .gtr t (.int k a) (.int k b)).run P w = .ok (.bool c) w := by
  subst h; simp [binOp, Op.intCmp]
def bE5 (ad : Option Addr) (nr cap : Nat) (ad2 : Option Addr) (na cap2 : Nat) (m : List OpR) (c : Nat) : St := ⟨[(0, .v (.slice ad nr cap)), (1, .v (.slice ad2 na cap2)), (6, .p 26 0), (7, .p 27 0), (8, lsl m c)], [(26, .ext (tabA Tab.nil)), (27, .ext (tabA Tab.nil)), (98, .ext (listA m c))]⟩
def bS5 (ad : Option Addr) (nr cap : Nat) (ad2 : Option Addr) (na cap2 : Nat) (m : List OpR) (c i : Nat) : St := ⟨[(0, .v (.slice ad nr cap)), (1, .v (.slice ad2 na cap2)), (6, .p 26 0), (7, .p 27 0), (8, lsl m c), (9, .v (.int .i64 (i : Nat)))], [(26, .ext (tabA Tab.nil)), (27, .ext (tabA Tab.nil)), (98, .ext (listA m c))]⟩
def bK5 (ad : Option Addr) (nr cap : Nat) (ad2 : Option Addr) (na cap2 : Nat) (m : List OpR) (c i : Nat) (ok : Bool) (k : Nat) : St := ⟨[(0, .v (.slice ad nr cap)), (1, .v (.slice ad2 na cap2)), (6, .p 26 0), (7, .p 27 0), (8, lsl m c), (9, .v (.int .i64 (i : Nat))), (10, .v (.bool ok)), (11, .v (.int .i64 (k : Nat)))], [(26, .ext (tabA Tab.nil)), (27, .ext (tabA Tab.nil)), (98, .ext (listA m c))]⟩
set_option maxRecDepth 20000 in
set_option maxHeartbeats 4000000 in
theorem law5_any (rows : List OpR) (ad : Option Addr) (g off cap : Nat) (addrs : List (Bool × Nat)) (ad2 : Option Addr) (g2 off2 cap2 : Nat) (w : World)
    (hrl : rows.length < 9223372036854775808) (hrow : ∀ (j : Nat) (p : OpR), rows[j]? = some p → ad = some ⟨g, off, none⟩ ∧ ∀ i, i < 20 → w.cell? ⟨g, off + j * 20 + i, none⟩ = p.c[i]?) (hrn : ∀ (j : Nat) (p : OpR), rows[j]? = some p → p.n < 2 ^ 128)
    (hal : addrs.length < 9223372036854775808) (hadr : ∀ (j : Nat) (x : Bool × Nat), addrs[j]? = some x → x.2 < 2 ^ 128 ∧ ad2 = some ⟨g2, off2, none⟩ ∧ ∀ i, i < 17 → w.cell? ⟨g2, off2 + j * 17 + i, none⟩ = (adc x.1 x.2)[i]?) :
    Calls Try.prog 5 #[.slice ad rows.length cap, .slice ad2 addrs.length cap2] w fun e w' => e = .returned (.bool true) ∧ Below w.heap.size w w' := by
  go_enter Try.func5, Try.ntmps5
  have h := Rep.start (N := 248) [.slice ad rows.length cap, .slice ad2 addrs.length cap2] [undef, undef, undef, undef, undef, undef, undef, undef, undef, undef, undef, undef, undef, undef, undef, undef, undef, undef, undef, undef, undef, undef, undef, undef, undef, undef, undef, undef, undef, undef, undef, undef, undef, undef, undef, undef, undef, undef, undef, undef, undef, undef, undef, undef, undef, undef, undef, undef, undef, undef, undef, undef, undef, undef, undef, undef, undef, undef, undef, undef, undef, undef, undef, undef, undef, undef, undef, undef, undef, undef, undef, undef, undef, undef, undef, undef, undef, undef, undef, undef, undef, undef, undef, undef, undef, undef, undef, undef, undef, undef, undef, undef, undef, undef, undef, undef, undef, undef, undef, undef, undef, undef, undef, undef, undef, undef, undef, undef, undef, undef, undef, undef, undef, undef, undef, undef, undef, undef, undef, undef, undef, undef, undef, undef, undef, undef, undef, undef, undef, undef, undef, undef, undef, undef, undef, undef, undef, undef, undef, undef, undef, undef, undef, undef, undef, undef, undef, undef, undef, undef, undef, undef, undef, undef, undef, undef, undef, undef, undef, undef, undef, undef, undef, undef, undef, undef, undef, undef, undef, undef, undef, undef, undef, undef, undef, undef, undef, undef, undef, undef, undef, undef, undef, undef, undef, undef, undef, undef, undef, undef, undef, undef, undef, undef, undef, undef, undef, undef, undef, undef, undef, undef, undef, undef, undef, undef, undef, undef, undef, undef, undef, undef, undef, undef, undef, undef, undef, undef, undef, undef, undef, undef, undef, undef, undef, undef, undef, undef, undef, undef, undef, undef, undef, undef, undef, undef, undef, undef, undef, undef, undef, undef, undef, undef, undef, undef] w rfl
  apply seq_dag hmix h
  case hw =>
    apply Walk.cons
    · exact ok_assign rfl rfl rfl
    exact Walk.nil _
  case hck => kernel_rfl
  case hQ =>
    intro ρ A w1 h
    apply seq_dag hmix h
    case hw =>
      apply Walk.cons
      · exact ok_call_val rfl rfl fn8 [] rfl (rd := []) (fun ρ w _ _ => awake_any w)
      apply Walk.cons
      · exact ok_assign rfl rfl rfl
      exact Walk.nil _
    case hck => kernel_rfl
    case hQ =>
      intro ρ A w1 h
      apply seq_dag hmix h
      case hw =>
        apply Walk.cons
        · exact o_new 26 rfl rfl
        apply Walk.cons
        · exact ok_assign rfl rfl rfl
        exact Walk.nil _
      case hck => kernel_rfl
      case hQ =>
        intro ρ A w1 h
        apply seq_dag hmix h
        case hw =>
          apply Walk.cons
          · exact o_new 27 rfl rfl
          apply Walk.cons
          · exact ok_assign rfl rfl rfl
          exact Walk.nil _
        case hck => kernel_rfl
        case hQ =>
          intro ρ A w1 h
          refine wp_seq ?_
          apply seq_dag hmix h
          case hw =>
            apply Walk.cons
            · exact ok_move rfl rfl rfl
            apply Walk.cons
            · exact ok_not rfl rfl rfl rfl
            apply Walk.cons
            · exact ok_move rfl rfl rfl
            apply Walk.cons
            · first | exact ok_skip rfl | exact ok_skip_u rfl | exact ok_move rfl rfl rfl
            apply Walk.cons
            · first | exact ok_skip rfl | exact o_nonnil rfl rfl (.inl rfl) rfl rfl
            apply Walk.cons
            · first | exact ok_pick_true rfl rfl rfl rfl | exact ok_pick_false rfl rfl rfl rfl
            apply Walk.cons
            · exact ok_move rfl rfl rfl
            apply Walk.cons
            · first | exact ok_skip rfl | exact ok_skip_u rfl | exact ok_move rfl rfl rfl
            apply Walk.cons
            · first | exact ok_skip rfl | exact o_nonnil rfl rfl (.inl rfl) rfl rfl
            apply Walk.cons
            · first | exact ok_pick_true rfl rfl rfl rfl | exact ok_pick_false rfl rfl rfl rfl
            exact Walk.nil _
          case hck => kernel_rfl
          case hQ =>
            intro ρ A w1 h
            refine if_false' h rfl (wp_skip (Exit.then_normal ?_))
            apply seq_dag hmix h
            case hw =>
              apply Walk.cons
              · exact ok_assign rfl rfl rfl
              exact Walk.nil _
            case hck => kernel_rfl
            case hQ =>
              intro ρ A w1 h
              have h := h.ghost (k := 8) rfl [(0, .v (.slice ad rows.length cap)), (1, .v (.slice ad2 addrs.length cap2)), (6, .p 26 0), (7, .p 27 0)] [(26, .ext (tabA Tab.nil)), (27, .ext (tabA Tab.nil))] ⟨rfl, rfl, rfl, rfl, trivial⟩ ⟨rfl, rfl, trivial⟩ rfl rfl
              refine wp_seq ?_
              refine wp_join (fun a w3 => ∃ m c ρ, (m.length ≤ 60 ∧ (∀ (j : Nat) (q : OpR), m[j]? = some q → q.Ok) ∧ Dist m) ∧ Rep 248 (bE5 ad rows.length cap ad2 addrs.length cap2 m c) ρ { W := w } a w3) ?_ ?_
              · apply seq_dag hmix h
                case hw =>
                  apply Walk.cons
                  · exact ok_assign rfl rfl rfl
                  exact Walk.nil _
                case hck => kernel_rfl
                case hQ =>
                  intro ρ A w1 h
                  have h := h.plain (bS5 ad rows.length cap ad2 addrs.length cap2 [] 0 0) ⟨rfl, rfl, rfl, rfl, rfl, rfl, trivial⟩ ⟨rfl, rfl, rfl, trivial⟩ rfl
                  refine wp_block ?_
                  refine rep_loop_by (fun (x : List OpR × Nat × Nat) => rows.length - x.2.2) (fun (x : List OpR × Nat × Nat) => bS5 ad rows.length cap ad2 addrs.length cap2 x.1 x.2.1 x.2.2) (fun (x : List OpR × Nat × Nat) => x.2.2 ≤ rows.length ∧ x.1.length ≤ 60 ∧ (∀ (j : Nat) (q : OpR), x.1[j]? = some q → q.Ok) ∧ Dist x.1) ([], 0, 0) ⟨Nat.zero_le _, Nat.zero_le _, (fun j q hq => by simp at hq), (fun i j p q hi => by simp at hi)⟩ h ?_
                  clear h
                  rintro ⟨m, c, i⟩ ρ A w2 ⟨hi, hml, hmok, hmd⟩ h
                  simp only at hi hml hmok hmd h
                  by_cases hir : i < rows.length
                  · by_cases hmm : m.length < 60
                    · refine wp_seq ?_
                      apply seq_dag hmix h
                      case hw =>
                        apply Walk.cons
                        · exact ok_move rfl rfl rfl
                        apply Walk.cons
                        · exact ok_move rfl rfl rfl
                        apply Walk.cons
                        · exact ok_len_ro rfl rfl rfl u36
                        apply Walk.cons
                        · exact o_bin rfl rfl rfl rfl (r_lss (a := i) (b := rows.length) (decide_eq_true hir))
                        apply Walk.cons
                        · exact ok_move rfl rfl rfl
                        apply Walk.cons
                        · first | exact ok_skip rfl | exact ok_skip_u rfl | exact ok_move rfl rfl rfl
                        apply Walk.cons
                        · first | exact ok_skip rfl | exact ok_skip_u rfl | exact o_llen rfl rfl rfl
                        apply Walk.cons
                        · first | exact ok_skip rfl | exact ok_skip_u rfl | exact o_bin rfl rfl rfl rfl (r_lss (a := m.length) (b := 60) (decide_eq_true hmm))
                        apply Walk.cons
                        · first | exact ok_pick_true rfl rfl rfl rfl | exact ok_pick_false rfl rfl rfl rfl
                        exact Walk.nil _
                      case hck => kernel_rfl
                      case hQ =>
                        intro ρ A w1 h
                        refine if_true' h rfl (wp_skip ?_)
                        refine Exit.then_normal ?_
                        refine wp_seq (wp_block ?_)
                        obtain ⟨p, hp1⟩ : ∃ p, rows[i]? = some p := ⟨_, List.getElem?_eq_getElem hir⟩
                        obtain ⟨had, hcell⟩ := hrow i p hp1
                        have hpn := hrn i p hp1
                        have hlr : rows.length < 9223372036854775808 := hrl
                        apply seq_dag hmix h
                        case hw =>
                          apply Walk.cons
                          · exact ok_move rfl rfl rfl
                          apply Walk.cons
                          · exact ok_move rfl rfl rfl
                          apply Walk.cons
                          · exact o_rat rfl rfl rfl rfl u36 sz40 had (by omega)
                          apply Walk.cons
                          · first | exact ok_fld rfl rfl rfl fo40_2 rfl | exact ok_fld_v rfl rfl rfl fo40_2 rfl
                          apply Walk.cons
                          · exact o_r31 rfl rfl rfl (fun h => h) hcell
                          apply Walk.cons
                          · exact ok_call_val rfl rfl fn13 [.v _] rfl (rd := []) (fun _ w _ _ => isPrefix_any _ _ _ w)
                          apply Walk.cons
                          · exact ok_assign rfl rfl rfl
                          exact Walk.nil _
                        case hck => kernel_rfl
                        case hQ =>
                          intro ρ A w1 h
                          refine wp_seq ?_
                          refine wp_join (fun a w3 => ∃ ok k ρ, (ok = true → p.Ok ∧ ∀ (j : Nat) (q : OpR), m[j]? = some q → ¬ q.key p.v p.bn (topD p.n p.bn)) ∧ Rep 248 (bK5 ad rows.length cap ad2 addrs.length cap2 m c i ok k) ρ { W := w } a w3) ?_ ?_
                          · apply seq_dag hmix h
                            case hw =>
                              apply Walk.cons
                              · exact ok_assign rfl rfl rfl
                              exact Walk.nil _
                            case hck => kernel_rfl
                            case hQ =>
                              intro ρ A w1 h
                              have h := h.plain (bK5 ad rows.length cap ad2 addrs.length cap2 m c i (isPfx p.v p.n p.b) 0) ⟨rfl, rfl, rfl, rfl, rfl, rfl, rfl, rfl, trivial⟩ ⟨rfl, rfl, rfl, trivial⟩ rfl
                              refine wp_block ?_
                              refine rep_loop_by (fun (x : Bool × Nat) => m.length - x.2) (fun (x : Bool × Nat) => bK5 ad rows.length cap ad2 addrs.length cap2 m c i x.1 x.2) (fun (x : Bool × Nat) => x.2 ≤ m.length ∧ (x.1 = true → p.Ok ∧ ∀ (j : Nat) (q : OpR), j < x.2 → m[j]? = some q → ¬ q.key p.v p.bn (topD p.n p.bn))) (isPfx p.v p.n p.b, 0) ⟨Nat.zero_le _, fun hok => ⟨⟨hpn, hok⟩, fun j q hj => absurd hj (Nat.not_lt_zero j)⟩⟩ h ?_
                              clear h
                              rintro ⟨ok, k⟩ ρ A w3 ⟨hk, hkI⟩ h
                              simp only at hk hkI h
                              by_cases hkl : k < m.length
                              · cases ok with
                                | true =>
                                  obtain ⟨hpok, hkI⟩ := hkI rfl
                                  obtain ⟨q, hq⟩ : ∃ q, m[k]? = some q := ⟨_, List.getElem?_eq_getElem hkl⟩
                                  have hqok := hmok k q hq
                                  refine wp_seq ?_
                                  apply seq_dag hmix h
                                  case hw =>
                                    apply Walk.cons
                                    · exact ok_move rfl rfl rfl
                                    apply Walk.cons
                                    · exact ok_move rfl rfl rfl
                                    apply Walk.cons
                                    · exact o_llen rfl rfl rfl
                                    apply Walk.cons
                                    · exact o_bin rfl rfl rfl rfl (r_lss (a := k) (b := m.length) (decide_eq_true hkl))
                                    apply Walk.cons
                                    · exact ok_move rfl rfl rfl
                                    apply Walk.cons
                                    · first | exact ok_skip rfl | exact ok_skip_u rfl | exact ok_move rfl rfl rfl
                                    apply Walk.cons
                                    · first | exact ok_pick_true rfl rfl rfl rfl | exact ok_pick_false rfl rfl rfl rfl
                                    exact Walk.nil _
                                  case hck => kernel_rfl
                                  case hQ =>
                                    intro ρ A w1 h
                                    refine if_true' h rfl (wp_skip ?_)
                                    refine Exit.then_normal ?_
                                    refine wp_seq (wp_block ?_)
                                    have hw1 := whole_eq (v := q.v) (v' := p.v) (n := q.n) (n' := p.n) (b := q.bn) (b' := p.bn) (Nat.le_trans hqok.le (mostA_le _))
                                    apply region_dag hmix h
                                    case hw =>
                                      apply Walk.cons
                                      · exact ok_move rfl rfl rfl
                                      apply Walk.cons
                                      · exact ok_move rfl rfl rfl
                                      apply Walk.cons
                                      · exact o_lat rfl rfl rfl rfl hkl
                                      apply Walk.cons
                                      · exact ok_fld rfl rfl rfl fo40_2 rfl
                                      apply Walk.cons
                                      · exact o_ll31 rfl rfl rfl rfl hq
                                      apply Walk.cons
                                      · exact ok_call_val rfl rfl fn14 [.v _] rfl (rd := []) (fun _ w _ _ => wholeR hqok w)
                                      apply Walk.cons
                                      · exact ok_move rfl rfl rfl
                                      apply Walk.cons
                                      · exact ok_move rfl rfl rfl
                                      apply Walk.cons
                                      · exact o_rat rfl rfl rfl rfl u36 sz40 had (by omega)
                                      apply Walk.cons
                                      · exact ok_fld_v rfl rfl rfl fo40_2 rfl
                                      apply Walk.cons
                                      · exact o_r31 rfl rfl rfl (fun h => h) hcell
                                      apply Walk.cons
                                      · exact ok_call_val rfl rfl fn14 [.v _] rfl (rd := []) (fun _ w _ _ => wholeR hpok w)
                                      apply Walk.cons
                                      · exact o_neq31 rfl rfl rfl rfl (topN_lt hqok.lt) (topN_lt hpok.lt) rfl
                                      apply Walk.cons
                                      · exact ok_assign rfl rfl rfl
                                      exact Walk.nil _
                                    case hck => kernel_rfl
                                    case hQ =>
                                      intro ρ A w1 h
                                      refine Exit.block_normal (Exit.then_normal ?_)
                                      apply region_dag hmix h
                                      case hw =>
                                        apply Walk.cons
                                        · exact ok_move rfl rfl rfl
                                        apply Walk.cons
                                        · exact o_bin rfl rfl rfl rfl (r_addi (a := k) (b := 1) (by omega))
                                        apply Walk.cons
                                        · exact ok_assign rfl rfl rfl
                                        exact Walk.nil _
                                      case hck => kernel_rfl
                                      case hQ =>
                                        intro ρ A w1 h
                                        refine ⟨(!decide (q.v = p.v ∧ topN q.n q.bn = topN p.n p.bn ∧ ((q.bn : Nat) : Int) = (p.bn : Nat)), k + 1), _, by simp only; omega, ⟨by simp only; omega, fun hok => ⟨hpok, fun j x hj hx => ?_⟩⟩, h.plain (bK5 ad rows.length cap ad2 addrs.length cap2 m c i _ (k + 1)) ⟨rfl, rfl, rfl, rfl, rfl, rfl, rfl, rfl, trivial⟩ ⟨rfl, rfl, rfl, trivial⟩ rfl⟩
                                        simp only at hj
                                        by_cases hjk : j = k
                                        · subst hjk
                                          rw [hq] at hx
                                          cases hx
                                          intro hkey
                                          have := hw1.2 hkey
                                          simp [this] at hok
                                        · exact hkI j x (by omega) hx
                                | false =>
                                  refine wp_seq ?_
                                  apply seq_dag hmix h
                                  case hw =>
                                    apply Walk.cons
                                    · exact ok_move rfl rfl rfl
                                    apply Walk.cons
                                    · exact ok_move rfl rfl rfl
                                    apply Walk.cons
                                    · exact o_llen rfl rfl rfl
                                    apply Walk.cons
                                    · exact o_bin rfl rfl rfl rfl (r_lss (a := k) (b := m.length) (decide_eq_true hkl))
                                    apply Walk.cons
                                    · exact ok_move rfl rfl rfl
                                    apply Walk.cons
                                    · first | exact ok_skip rfl | exact ok_skip_u rfl | exact ok_move rfl rfl rfl
                                    apply Walk.cons
                                    · first | exact ok_pick_true rfl rfl rfl rfl | exact ok_pick_false rfl rfl rfl rfl
                                    exact Walk.nil _
                                  case hck => kernel_rfl
                                  case hQ =>
                                    intro ρ A w1 h
                                    refine if_false' h rfl (wp_exit (at_exit' ?_))
                                    refine Exit.then_normal ?_
                                    exact ⟨false, k, _, (fun h => by cases h), h.plain (bK5 ad rows.length cap ad2 addrs.length cap2 m c i false k) ⟨rfl, rfl, rfl, rfl, rfl, rfl, rfl, rfl, trivial⟩ ⟨rfl, rfl, rfl, trivial⟩ rfl⟩
                              · have hke : k = m.length := by omega
                                refine wp_seq ?_
                                apply seq_dag hmix h
                                case hw =>
                                  apply Walk.cons
                                  · exact ok_move rfl rfl rfl
                                  apply Walk.cons
                                  · exact ok_move rfl rfl rfl
                                  apply Walk.cons
                                  · exact o_llen rfl rfl rfl
                                  apply Walk.cons
                                  · exact o_bin rfl rfl rfl rfl (r_lss (a := k) (b := m.length) (decide_eq_false hkl))
                                  apply Walk.cons
                                  · exact ok_move rfl rfl rfl
                                  apply Walk.cons
                                  · first | exact ok_skip rfl | exact ok_skip_u rfl | exact ok_move rfl rfl rfl
                                  apply Walk.cons
                                  · first | exact ok_pick_true rfl rfl rfl rfl | exact ok_pick_false rfl rfl rfl rfl
                                  exact Walk.nil _
                                case hck => kernel_rfl
                                case hQ =>
                                  intro ρ A w1 h
                                  refine if_false' h rfl (wp_exit (at_exit' ?_))
                                  refine Exit.then_normal ?_
                                  exact ⟨ok, k, _, fun hok => ⟨(hkI hok).1, fun j q hq => (hkI hok).2 j q (by have := (List.getElem?_eq_some_iff.1 hq).1; omega) hq⟩, h.plain (bK5 ad rows.length cap ad2 addrs.length cap2 m c i ok k) ⟨rfl, rfl, rfl, rfl, rfl, rfl, rfl, rfl, trivial⟩ ⟨rfl, rfl, rfl, trivial⟩ rfl⟩
                          · rintro a w3 ⟨ok, k, ρ, hokI, h⟩
                            refine wp_fold (fun a w4 => ∃ m c ρ, (m.length ≤ 60 ∧ (∀ (j : Nat) (q : OpR), m[j]? = some q → q.Ok) ∧ Dist m) ∧ Rep 248 (bS5 ad rows.length cap ad2 addrs.length cap2 m c i) ρ { W := w } a w4) ?_ ?_
                            · apply seq_dag hmix h
                              case hw =>
                                apply Walk.cons
                                · exact ok_move rfl rfl rfl
                                exact Walk.nil _
                              case hck => kernel_rfl
                              case hQ =>
                                intro ρ A w1 h
                                refine if_any h rfl (fun hok => ?_) (fun _ => ?_)
                                · obtain ⟨hpok, hnew⟩ := hokI hok
                                  refine last_list ?_
                                  refine wpl_step h rfl (ok_move rfl rfl rfl) rfl rfl rfl rfl ?_
                                  intro ρ A w3 h
                                  refine wpl_step h rfl (ok_move rfl rfl rfl) rfl rfl rfl rfl ?_
                                  intro ρ A w3 h
                                  refine wpl_step h rfl (ok_move rfl rfl rfl) rfl rfl rfl rfl ?_
                                  intro ρ A w3 h
                                  refine wpl_step h rfl (o_rat rfl rfl rfl rfl u36 sz40 had (by omega)) rfl rfl rfl rfl ?_
                                  intro ρ A w3 h
                                  refine wpl_step h rfl (o_r40 rfl rfl rfl (fun h => h) hcell) rfl rfl rfl rfl ?_
                                  intro ρ A w3 h
                                  refine wpl_step h rfl (o_lit40 83 rfl rfl rfl) rfl rfl rfl rfl ?_
                                  intro ρ A w3 h
                                  refine wpl_lapp h rfl rfl rfl rfl (by decide) rfl rfl rfl rfl (by omega) [(0, .v (.slice ad rows.length cap)), (1, .v (.slice ad2 addrs.length cap2)), (6, .p 26 0), (7, .p 27 0), (9, .v (.int .i64 (i : Nat)))] [(26, .ext (tabA Tab.nil)), (27, .ext (tabA Tab.nil))] ⟨rfl, rfl, rfl, rfl, rfl, trivial⟩ rfl ⟨rfl, rfl, trivial⟩ rfl (fun _ => rfl) ?_
                                  intro c2 ρ A w4 h
                                  refine wpl_step h rfl (ok_assign rfl rfl rfl) rfl rfl rfl rfl ?_
                                  intro ρ A w4 h
                                  refine wpList_nil ?_
                                  refine Exit.then_normal ?_
                                  refine ⟨m ++ [p], c2, _, ⟨by simp; omega, fun j q hq => ?_, hmd.add hnew⟩, h.plain (bS5 ad rows.length cap ad2 addrs.length cap2 (m ++ [p]) c2 i) ⟨rfl, rfl, rfl, rfl, rfl, rfl, trivial⟩ ⟨rfl, rfl, rfl, trivial⟩ rfl⟩
                                  rcases Nat.lt_or_ge j m.length with hj | hj
                                  · rw [List.getElem?_append_left hj] at hq
                                    exact hmok j q hq
                                  · rw [List.getElem?_append_right hj] at hq
                                    obtain ⟨hlt, he⟩ := List.getElem?_eq_some_iff.1 hq
                                    simp at he
                                    rw [← he]
                                    exact hpok
                                · refine wp_skip ?_
                                  refine Exit.then_normal ?_
                                  exact ⟨m, c, _, ⟨hml, hmok, hmd⟩, h.plain (bS5 ad rows.length cap ad2 addrs.length cap2 m c i) ⟨rfl, rfl, rfl, rfl, rfl, rfl, trivial⟩ ⟨rfl, rfl, rfl, trivial⟩ rfl⟩
                            · rintro a w4 ⟨m, c, ρ, ⟨h1, h2, h3⟩, h⟩
                              refine Exit.block_normal (Exit.then_normal ?_)
                              apply region_dag hmix h
                              case hw =>
                                apply Walk.cons
                                · exact ok_move rfl rfl rfl
                                apply Walk.cons
                                · exact o_bin rfl rfl rfl rfl (r_addi (a := i) (b := 1) (by omega))
                                apply Walk.cons
                                · exact ok_assign rfl rfl rfl
                                exact Walk.nil _
                              case hck => kernel_rfl
                              case hQ =>
                                intro ρ A w1 h
                                exact ⟨(m, c, i + 1), _, by simp only; omega, ⟨by simp only; omega, h1, h2, h3⟩, h.plain (bS5 ad rows.length cap ad2 addrs.length cap2 m c (i + 1)) ⟨rfl, rfl, rfl, rfl, rfl, rfl, trivial⟩ ⟨rfl, rfl, rfl, trivial⟩ rfl⟩
                    · refine wp_seq ?_
                      apply seq_dag hmix h
                      case hw =>
                        apply Walk.cons
                        · exact ok_move rfl rfl rfl
                        apply Walk.cons
                        · exact ok_move rfl rfl rfl
                        apply Walk.cons
                        · exact ok_len_ro rfl rfl rfl u36
                        apply Walk.cons
                        · exact o_bin rfl rfl rfl rfl (r_lss (a := i) (b := rows.length) (decide_eq_true hir))
                        apply Walk.cons
                        · exact ok_move rfl rfl rfl
                        apply Walk.cons
                        · first | exact ok_skip rfl | exact ok_skip_u rfl | exact ok_move rfl rfl rfl
                        apply Walk.cons
                        · first | exact ok_skip rfl | exact ok_skip_u rfl | exact o_llen rfl rfl rfl
                        apply Walk.cons
                        · first | exact ok_skip rfl | exact ok_skip_u rfl | exact o_bin rfl rfl rfl rfl (r_lss (a := m.length) (b := 60) (decide_eq_false hmm))
                        apply Walk.cons
                        · first | exact ok_pick_true rfl rfl rfl rfl | exact ok_pick_false rfl rfl rfl rfl
                        exact Walk.nil _
                      case hck => kernel_rfl
                      case hQ =>
                        intro ρ A w1 h
                        refine if_false' h rfl (wp_exit (at_exit' ?_))
                        refine Exit.then_normal ?_
                        exact ⟨m, c, _, ⟨hml, hmok, hmd⟩, h.plain (bE5 ad rows.length cap ad2 addrs.length cap2 m c) ⟨rfl, rfl, rfl, rfl, rfl, trivial⟩ ⟨rfl, rfl, rfl, trivial⟩ rfl⟩
                  · refine wp_seq ?_
                    apply seq_dag hmix h
                    case hw =>
                      apply Walk.cons
                      · exact ok_move rfl rfl rfl
                      apply Walk.cons
                      · exact ok_move rfl rfl rfl
                      apply Walk.cons
                      · exact ok_len_ro rfl rfl rfl u36
                      apply Walk.cons
                      · exact o_bin rfl rfl rfl rfl (r_lss (a := i) (b := rows.length) (decide_eq_false hir))
                      apply Walk.cons
                      · exact ok_move rfl rfl rfl
                      apply Walk.cons
                      · first | exact ok_skip rfl | exact ok_skip_u rfl | exact ok_move rfl rfl rfl
                      apply Walk.cons
                      · first | exact ok_skip rfl | exact ok_skip_u rfl | exact o_llen rfl rfl rfl
                      apply Walk.cons
                      · first | exact ok_skip rfl | exact ok_skip_u rfl | exact o_bin rfl rfl rfl rfl (r_lss (a := m.length) (b := 60) (decide_eq_false (by omega)))
                      apply Walk.cons
                      · first | exact ok_pick_true rfl rfl rfl rfl | exact ok_pick_false rfl rfl rfl rfl
                      exact Walk.nil _
                    case hck => kernel_rfl
                    case hQ =>
                      intro ρ A w1 h
                      refine if_false' h rfl (wp_exit (at_exit' ?_))
                      refine Exit.then_normal ?_
                      exact ⟨m, c, _, ⟨hml, hmok, hmd⟩, h.plain (bE5 ad rows.length cap ad2 addrs.length cap2 m c) ⟨rfl, rfl, rfl, rfl, rfl, trivial⟩ ⟨rfl, rfl, rfl, trivial⟩ rfl⟩
              · rintro a w3 ⟨m, c, ρ, ⟨hml, hmok, hmd⟩, h⟩
                have hml64 : m.length < 64 := by omega
                refine wp_seq ?_
                apply seq_dag hmix h
                case hw =>
                  apply Walk.cons
                  · exact ok_assign rfl rfl rfl
                  exact Walk.nil _
                case hck => kernel_rfl
                case hQ =>
                  intro ρ A w1 h
                  refine wp_block ?_
                  refine rep_loop_by (fun (x : Nat × Tab × Tab) => m.length - x.1) (fun (x : Nat × Tab × Tab) => (⟨[(1, .v (.slice ad2 addrs.length cap2)), (6, .p 26 0), (7, .p 27 0), (8, lsl m c), (12, .v (.int .i64 (x.1 : Nat)))], [(26, .ext (tabA x.2.1)), (27, .ext (tabA x.2.2)), (98, .ext (listA m c))]⟩ : St)) (fun (x : Nat × Tab × Tab) => x.1 ≤ m.length ∧ Owns x.2.1 m (fun j => j < x.1) ∧ x.2.1.cnt = x.1 ∧ Owns x.2.2 m (fun j => m.length ≤ j + x.1) ∧ x.2.2.cnt = x.1) (0, Tab.nil, Tab.nil) ⟨Nat.zero_le _, (Owns.start m).congr (fun j p _ => ⟨fun hx => hx.elim, fun hx => absurd hx (Nat.not_lt_zero j)⟩), rfl, (Owns.start m).congr (fun j p hj => ⟨fun hx => hx.elim, fun hx => by have := (List.getElem?_eq_some_iff.1 hj).1; simp only at hx; omega⟩), rfl⟩ (h.plain _ ⟨rfl, rfl, rfl, rfl, rfl, trivial⟩ ⟨rfl, rfl, rfl, trivial⟩ rfl) ?_
                  clear h
                  rintro ⟨i, TA, TB⟩ ρ act w4 ⟨hi1, hA, hAc, hB, hBc⟩ h
                  simp only at hi1 hA hAc hB hBc h
                  by_cases hil : i < m.length
                  · refine wp_seq ?_
                    apply seq_dag hmix h
                    case hw =>
                      apply Walk.cons
                      · exact ok_move rfl rfl rfl
                      apply Walk.cons
                      · exact ok_move rfl rfl rfl
                      apply Walk.cons
                      · exact o_llen rfl rfl rfl
                      apply Walk.cons
                      · exact o_bin rfl rfl rfl rfl (r_lss (a := i) (b := m.length) (decide_eq_true hil))
                      exact Walk.nil _
                    case hck => kernel_rfl
                    case hQ =>
                      intro ρ A w1 h
                      refine if_true' h rfl (wp_skip ?_)
                      refine Exit.then_normal ?_
                      refine wp_seq (wp_block ?_)
                      obtain ⟨q, hq⟩ : ∃ q, m[i]? = some q := ⟨_, List.getElem?_eq_getElem hil⟩
                      have hqok := hmok i q hq
                      obtain ⟨r, hr⟩ : ∃ r, m[m.length - 1 - i]? = some r := ⟨_, List.getElem?_eq_getElem (by omega)⟩
                      have hrok := hmok _ r hr
                      apply seq_dag hmix h
                      case hw =>
                        apply Walk.cons
                        · exact ok_move rfl rfl rfl
                        apply Walk.cons
                        · exact ok_move rfl rfl rfl
                        apply Walk.cons
                        · exact ok_move rfl rfl rfl
                        apply Walk.cons
                        · exact o_lat rfl rfl rfl rfl hil
                        apply Walk.cons
                        · exact ok_fld rfl rfl rfl fo40_2 rfl
                        apply Walk.cons
                        · exact o_ll31 rfl rfl rfl rfl hq
                        apply Walk.cons
                        · exact ok_move rfl rfl rfl
                        apply Walk.cons
                        · exact ok_move rfl rfl rfl
                        apply Walk.cons
                        · exact o_lat rfl rfl rfl rfl hil
                        apply Walk.cons
                        · exact ok_fld rfl rfl rfl fo40_1 rfl
                        apply Walk.cons
                        · exact o_ll3 rfl rfl rfl rfl hq
                        apply Walk.cons
                        · exact o_putR (p := q) (M := TA) rfl rfl rfl rfl hqok (by omega)
                        apply Walk.cons
                        · exact o_bin rfl rfl rfl rfl (r_neqz (decide_eq_false (by decide)))
                        apply Walk.cons
                        · exact ok_move rfl rfl rfl
                        apply Walk.cons
                        · first | exact ok_skip rfl | exact ok_skip_u rfl | exact ok_move rfl rfl rfl
                        apply Walk.cons
                        · first | exact ok_skip rfl | exact ok_skip_u rfl | exact ok_move rfl rfl rfl
                        apply Walk.cons
                        · first | exact ok_skip rfl | exact ok_skip_u rfl | exact ok_move rfl rfl rfl
                        apply Walk.cons
                        · first | exact ok_skip rfl | exact ok_skip_u rfl | exact o_llen rfl rfl rfl
                        apply Walk.cons
                        · first | exact ok_skip rfl | exact ok_skip_u rfl | exact o_bin rfl rfl rfl rfl (r_subi (a := m.length) (b := 1) (by omega) (by omega))
                        apply Walk.cons
                        · first | exact ok_skip rfl | exact ok_skip_u rfl | exact ok_move rfl rfl rfl
                        apply Walk.cons
                        · first | exact ok_skip rfl | exact ok_skip_u rfl | exact o_bin rfl rfl rfl rfl (r_subi (a := m.length - 1) (b := i) (by omega) (by omega))
                        apply Walk.cons
                        · first | exact ok_skip rfl | exact ok_skip_u rfl | exact o_lat rfl rfl rfl (j := m.length - 1 - i) rfl (by omega)
                        apply Walk.cons
                        · first | exact ok_skip rfl | exact ok_skip_u rfl | exact ok_fld rfl rfl rfl fo40_2 rfl
                        apply Walk.cons
                        · first | exact ok_skip rfl | exact ok_skip_u rfl | exact o_ll31 rfl rfl rfl rfl hr
                        apply Walk.cons
                        · first | exact ok_skip rfl | exact ok_skip_u rfl | exact ok_move rfl rfl rfl
                        apply Walk.cons
                        · first | exact ok_skip rfl | exact ok_skip_u rfl | exact ok_move rfl rfl rfl
                        apply Walk.cons
                        · first | exact ok_skip rfl | exact ok_skip_u rfl | exact o_llen rfl rfl rfl
                        apply Walk.cons
                        · first | exact ok_skip rfl | exact ok_skip_u rfl | exact o_bin rfl rfl rfl rfl (r_subi (a := m.length) (b := 1) (by omega) (by omega))
                        apply Walk.cons
                        · first | exact ok_skip rfl | exact ok_skip_u rfl | exact ok_move rfl rfl rfl
                        apply Walk.cons
                        · first | exact ok_skip rfl | exact ok_skip_u rfl | exact o_bin rfl rfl rfl rfl (r_subi (a := m.length - 1) (b := i) (by omega) (by omega))
                        apply Walk.cons
                        · first | exact ok_skip rfl | exact ok_skip_u rfl | exact o_lat rfl rfl rfl (j := m.length - 1 - i) rfl (by omega)
                        apply Walk.cons
                        · first | exact ok_skip rfl | exact ok_skip_u rfl | exact ok_fld rfl rfl rfl fo40_1 rfl
                        apply Walk.cons
                        · first | exact ok_skip rfl | exact ok_skip_u rfl | exact o_ll3 rfl rfl rfl rfl hr
                        apply Walk.cons
                        · first | exact ok_skip rfl | exact ok_skip_u rfl | exact o_putR (p := r) (M := TB) rfl rfl rfl rfl hrok (by omega)
                        apply Walk.cons
                        · first | exact ok_skip rfl | exact ok_skip_u rfl | exact o_bin rfl rfl rfl rfl (r_neqz (decide_eq_false (by decide)))
                        apply Walk.cons
                        · first | exact ok_pick_true rfl rfl rfl rfl | exact ok_pick_false rfl rfl rfl rfl
                        exact Walk.nil _
                      case hck => kernel_rfl
                      case hQ =>
                        intro ρ A w1 h
                        refine if_false' h rfl (wp_skip ?_)
                        refine Exit.block_normal (Exit.then_normal ?_)
                        apply region_dag hmix h
                        case hw =>
                          apply Walk.cons
                          · exact ok_move rfl rfl rfl
                          apply Walk.cons
                          · exact o_bin rfl rfl rfl rfl (r_addi (a := i) (b := 1) (by omega))
                          apply Walk.cons
                          · exact ok_assign rfl rfl rfl
                          exact Walk.nil _
                        case hck => kernel_rfl
                        case hQ =>
                          intro ρ A w1 h
                          exact ⟨(i + 1, TA.putR q, TB.putR r), _, by simp only; omega, ⟨by simp only; omega, (hA.put hmd hq).congr (fun j x _ => by constructor <;> omega), by simp only; rw [hA.cnt hmd hq (Nat.lt_irrefl i), hAc], (hB.put hmd hr).congr (fun j x hj => by have := (List.getElem?_eq_some_iff.1 hj).1; constructor <;> (intro hx; simp only at *; omega)), by simp only; rw [hB.cnt hmd hr (by omega), hBc]⟩, h.plain _ ⟨rfl, rfl, rfl, rfl, rfl, trivial⟩ ⟨rfl, rfl, rfl, trivial⟩ rfl⟩
                  · obtain rfl : i = m.length := by omega
                    refine wp_seq ?_
                    apply seq_dag hmix h
                    case hw =>
                      apply Walk.cons
                      · exact ok_move rfl rfl rfl
                      apply Walk.cons
                      · exact ok_move rfl rfl rfl
                      apply Walk.cons
                      · exact o_llen rfl rfl rfl
                      apply Walk.cons
                      · exact o_bin rfl rfl rfl rfl (r_lss (a := m.length) (b := m.length) (decide_eq_false hil))
                      exact Walk.nil _
                    case hck => kernel_rfl
                    case hQ =>
                      intro ρ A w1 h
                      refine if_false' h rfl (wp_exit (at_exit' ?_))
                      refine Exit.then_normal ?_
                      have hB2 : Owns TB m (fun j => j < m.length) := hB.congr fun j x hj => by have := (List.getElem?_eq_some_iff.1 hj).1; constructor <;> (intro hx; omega)
                      clear hB
                      refine wp_seq ?_
                      apply seq_dag hmix h
                      case hw =>
                        apply Walk.cons
                        · exact ok_assign rfl rfl rfl
                        exact Walk.nil _
                      case hck => kernel_rfl
                      case hQ =>
                        intro ρ A w1 h
                        refine wp_block ?_
                        refine rep_loop_by (fun (x : Nat × Tab) => m.length - x.1) (fun (x : Nat × Tab) => (⟨[(1, .v (.slice ad2 addrs.length cap2)), (6, .p 26 0), (7, .p 27 0), (8, lsl m c), (13, .v (.int .i64 (x.1 : Nat)))], [(26, .ext (tabA TA)), (27, .ext (tabA x.2)), (98, .ext (listA m c))]⟩ : St)) (fun (x : Nat × Tab) => x.1 ≤ m.length ∧ Owns x.2 m (fun j => j < m.length) ∧ x.2.cnt = m.length) (0, TB) ⟨Nat.zero_le _, hB2, hBc⟩ (h.plain _ ⟨rfl, rfl, rfl, rfl, rfl, trivial⟩ ⟨rfl, rfl, rfl, trivial⟩ rfl) ?_
                        clear h hB2 hBc hi1 hil
                        rintro ⟨i, TB⟩ ρ act w4 ⟨hi1, hB, hBc⟩ h
                        simp only at hi1 hB hBc h
                        by_cases hil : i < m.length
                        · refine wp_seq ?_
                          apply seq_dag hmix h
                          case hw =>
                            apply Walk.cons
                            · exact ok_move rfl rfl rfl
                            apply Walk.cons
                            · exact ok_move rfl rfl rfl
                            apply Walk.cons
                            · exact o_llen rfl rfl rfl
                            apply Walk.cons
                            · exact o_bin rfl rfl rfl rfl (r_lss (a := i) (b := m.length) (decide_eq_true hil))
                            exact Walk.nil _
                          case hck => kernel_rfl
                          case hQ =>
                            intro ρ A w1 h
                            refine if_true' h rfl (wp_skip ?_)
                            refine Exit.then_normal ?_
                            refine wp_seq (wp_block ?_)
                            obtain ⟨q, hq⟩ : ∃ q, m[i]? = some q := ⟨_, List.getElem?_eq_getElem hil⟩
                            have hqok := hmok i q hq
                            have hown : TB.own q.v q.bn (topD q.n q.bn) = some q.o := (hB _ _ _ _).2 ⟨i, q, hil, hq, ⟨rfl, rfl, rfl⟩, rfl⟩
                            apply seq_dag hmix h
                            case hw =>
                              apply Walk.cons
                              · exact ok_move rfl rfl rfl
                              apply Walk.cons
                              · exact ok_move rfl rfl rfl
                              apply Walk.cons
                              · exact ok_move rfl rfl rfl
                              apply Walk.cons
                              · exact o_lat rfl rfl rfl rfl hil
                              apply Walk.cons
                              · exact ok_fld rfl rfl rfl fo40_2 rfl
                              apply Walk.cons
                              · exact o_ll31 rfl rfl rfl rfl hq
                              apply Walk.cons
                              · exact o_dropR (p := q) (M := TB) rfl rfl rfl rfl hqok hown (by omega) (by omega)
                              apply Walk.cons
                              · exact ok_move rfl rfl rfl
                              apply Walk.cons
                              · exact ok_extract rfl rfl rfl rfl
                              apply Walk.cons
                              · exact ok_extract rfl rfl rfl rfl
                              apply Walk.cons
                              · exact ok_assign rfl rfl rfl
                              apply Walk.cons
                              · exact ok_assign rfl rfl rfl
                              exact Walk.nil _
                            case hck => kernel_rfl
                            case hQ =>
                              intro ρ A w1 h
                              have hD := hB.drop hmd hq
                              have hDc : (TB.drop q.v q.n q.bn).cnt = m.length - 1 := by show TB.cnt - 1 = _; rw [hBc]
                              apply seq_dag hmix h
                              case hw =>
                                apply Walk.cons
                                · exact ok_move rfl rfl rfl
                                apply Walk.cons
                                · exact ok_not rfl rfl rfl rfl
                                apply Walk.cons
                                · exact ok_move rfl rfl rfl
                                apply Walk.cons
                                · first | exact ok_skip rfl | exact ok_skip_u rfl | exact ok_move rfl rfl rfl
                                apply Walk.cons
                                · first | exact ok_skip rfl | exact ok_skip_u rfl | exact ok_move rfl rfl rfl
                                apply Walk.cons
                                · first | exact ok_skip rfl | exact ok_skip_u rfl | exact ok_move rfl rfl rfl
                                apply Walk.cons
                                · first | exact ok_skip rfl | exact ok_skip_u rfl | exact o_lat rfl rfl rfl rfl hil
                                apply Walk.cons
                                · first | exact ok_skip rfl | exact ok_skip_u rfl | exact ok_fld rfl rfl rfl fo40_1 rfl
                                apply Walk.cons
                                · first | exact ok_skip rfl | exact ok_skip_u rfl | exact o_ll3 rfl rfl rfl rfl hq
                                apply Walk.cons
                                · first | exact ok_skip rfl | exact ok_skip_u rfl | exact o_bin rfl rfl rfl rfl (r_neqz (decide_eq_false (fun hne => hne rfl)))
                                apply Walk.cons
                                · first | exact ok_pick_true rfl rfl rfl rfl | exact ok_pick_false rfl rfl rfl rfl
                                apply Walk.cons
                                · exact ok_move rfl rfl rfl
                                apply Walk.cons
                                · first | exact ok_skip rfl | exact ok_skip_u rfl | exact ok_move rfl rfl rfl
                                apply Walk.cons
                                · first | exact ok_skip rfl | exact ok_skip_u rfl | exact ok_move rfl rfl rfl
                                apply Walk.cons
                                · first | exact ok_skip rfl | exact ok_skip_u rfl | exact ok_move rfl rfl rfl
                                apply Walk.cons
                                · first | exact ok_skip rfl | exact ok_skip_u rfl | exact o_lat rfl rfl rfl rfl hil
                                apply Walk.cons
                                · first | exact ok_skip rfl | exact ok_skip_u rfl | exact ok_fld rfl rfl rfl fo40_2 rfl
                                apply Walk.cons
                                · first | exact ok_skip rfl | exact ok_skip_u rfl | exact o_ll31 rfl rfl rfl rfl hq
                                apply Walk.cons
                                · first | exact ok_skip rfl | exact ok_skip_u rfl | exact ok_move rfl rfl rfl
                                apply Walk.cons
                                · first | exact ok_skip rfl | exact ok_skip_u rfl | exact o_putR (p := q) (M := TB.drop q.v q.n q.bn) rfl rfl rfl rfl hqok (by omega)
                                apply Walk.cons
                                · first | exact ok_skip rfl | exact ok_skip_u rfl | exact o_bin rfl rfl rfl rfl (r_neqz (decide_eq_false (by decide)))
                                apply Walk.cons
                                · first | exact ok_pick_true rfl rfl rfl rfl | exact ok_pick_false rfl rfl rfl rfl
                                exact Walk.nil _
                              case hck => kernel_rfl
                              case hQ =>
                                intro ρ A w1 h
                                refine if_false' h rfl (wp_skip ?_)
                                refine Exit.block_normal (Exit.then_normal ?_)
                                apply region_dag hmix h
                                case hw =>
                                  apply Walk.cons
                                  · exact ok_move rfl rfl rfl
                                  apply Walk.cons
                                  · exact o_bin rfl rfl rfl rfl (r_addi (a := i) (b := 1) (by omega))
                                  apply Walk.cons
                                  · exact ok_assign rfl rfl rfl
                                  exact Walk.nil _
                                case hck => kernel_rfl
                                case hQ =>
                                  intro ρ A w1 h
                                  exact ⟨(i + 1, (TB.drop q.v q.n q.bn).putR q), _, by simp only; omega, ⟨by simp only; omega, (hD.put hmd hq).congr (fun j x hj => by constructor <;> omega), by simp only; rw [hD.cnt hmd hq (fun hx => hx.2 rfl), hDc]; omega⟩, h.plain _ ⟨rfl, rfl, rfl, rfl, rfl, trivial⟩ ⟨rfl, rfl, rfl, trivial⟩ rfl⟩
                        · obtain rfl : i = m.length := by omega
                          refine wp_seq ?_
                          apply seq_dag hmix h
                          case hw =>
                            apply Walk.cons
                            · exact ok_move rfl rfl rfl
                            apply Walk.cons
                            · exact ok_move rfl rfl rfl
                            apply Walk.cons
                            · exact o_llen rfl rfl rfl
                            apply Walk.cons
                            · exact o_bin rfl rfl rfl rfl (r_lss (a := m.length) (b := m.length) (decide_eq_false hil))
                            exact Walk.nil _
                          case hck => kernel_rfl
                          case hQ =>
                            intro ρ A w1 h
                            refine if_false' h rfl (wp_exit (at_exit' ?_))
                            refine Exit.then_normal ?_
                            have hfind := hA.find hB
                            refine wp_seq ?_
                            apply seq_dag hmix h
                            case hw =>
                              apply Walk.cons
                              · exact ok_assign rfl rfl rfl
                              exact Walk.nil _
                            case hck => kernel_rfl
                            case hQ =>
                              intro ρ A w1 h
                              refine wp_block ?_
                              refine rep_loop addrs.length (fun (i : Nat) => (⟨[(1, .v (.slice ad2 addrs.length cap2)), (6, .p 26 0), (7, .p 27 0), (8, lsl m c), (16, .v (.int .i64 (i : Nat)))], [(26, .ext (tabA TA)), (27, .ext (tabA TB)), (98, .ext (listA m c))]⟩ : St)) (h.plain _ ⟨rfl, rfl, rfl, rfl, rfl, trivial⟩ ⟨rfl, rfl, rfl, trivial⟩ rfl) ?_
                              clear h
                              intro i ρ act w5 hia h
                              by_cases hia2 : i < addrs.length
                              · refine wp_seq ?_
                                apply seq_dag hmix h
                                case hw =>
                                  apply Walk.cons
                                  · exact ok_move rfl rfl rfl
                                  apply Walk.cons
                                  · exact ok_move rfl rfl rfl
                                  apply Walk.cons
                                  · exact ok_len_ro rfl rfl rfl u37
                                  apply Walk.cons
                                  · exact o_bin rfl rfl rfl rfl (r_lss (a := i) (b := addrs.length) (decide_eq_true hia2))
                                  exact Walk.nil _
                                case hck => kernel_rfl
                                case hQ =>
                                  intro ρ A w1 h
                                  refine if_true' h rfl (wp_skip ?_)
                                  refine Exit.then_normal ?_
                                  refine wp_seq (wp_block ?_)
                                  obtain ⟨x, hx⟩ : ∃ x, addrs[i]? = some x := ⟨_, List.getElem?_eq_getElem hia2⟩
                                  obtain ⟨hxn, had2, hxc⟩ := hadr i x hx
                                  have hfx := hfind x.1 x.2
                                  obtain ⟨fr, hfr⟩ : ∃ fr, fdA TA x.1 x.2 = fr := ⟨_, rfl⟩
                                  rw [hfr] at hfx
                                  apply seq_dag hmix h
                                  case hw =>
                                    apply Walk.cons
                                    · exact ok_move rfl rfl rfl
                                    apply Walk.cons
                                    · exact ok_move rfl rfl rfl
                                    apply Walk.cons
                                    · exact ok_move rfl rfl rfl
                                    apply Walk.cons
                                    · exact o_rat rfl rfl rfl rfl u37 sz24 had2 (by omega)
                                    apply Walk.cons
                                    · exact o_a24 rfl rfl rfl (fun h => h) hxc
                                    apply Walk.cons
                                    · exact o_findE (n := x.2) (v := x.1) (M := TA) rfl rfl rfl rfl hxn hfr
                                    apply Walk.cons
                                    · exact ok_move rfl rfl rfl
                                    apply Walk.cons
                                    · exact ok_extract rfl rfl rfl rfl
                                    apply Walk.cons
                                    · exact ok_extract rfl rfl rfl rfl
                                    apply Walk.cons
                                    · exact ok_extract rfl rfl rfl rfl
                                    apply Walk.cons
                                    · exact o_alloc31 18 rfl rfl
                                    apply Walk.cons
                                    · exact ok_assign rfl rfl rfl
                                    apply Walk.cons
                                    · exact o_store31 rfl rfl rfl rfl rfl
                                    apply Walk.cons
                                    · exact ok_assign rfl rfl rfl
                                    exact Walk.nil _
                                  case hck => kernel_rfl
                                  case hQ =>
                                    intro ρ A w1 h
                                    apply seq_dag hmix h
                                    case hw =>
                                      apply Walk.cons
                                      · exact ok_move rfl rfl rfl
                                      apply Walk.cons
                                      · exact ok_move rfl rfl rfl
                                      apply Walk.cons
                                      · exact ok_move rfl rfl rfl
                                      apply Walk.cons
                                      · exact o_rat rfl rfl rfl rfl u37 sz24 had2 (by omega)
                                      apply Walk.cons
                                      · exact o_a24 rfl rfl rfl (fun h => h) hxc
                                      apply Walk.cons
                                      · exact o_findE (n := x.2) (v := x.1) (M := TB) rfl rfl rfl rfl hxn hfx.symm
                                      apply Walk.cons
                                      · exact ok_move rfl rfl rfl
                                      apply Walk.cons
                                      · exact ok_extract rfl rfl rfl rfl
                                      apply Walk.cons
                                      · exact ok_extract rfl rfl rfl rfl
                                      apply Walk.cons
                                      · exact ok_extract rfl rfl rfl rfl
                                      apply Walk.cons
                                      · exact o_alloc31 21 rfl rfl
                                      apply Walk.cons
                                      · exact ok_assign rfl rfl rfl
                                      apply Walk.cons
                                      · exact o_store31 rfl rfl rfl rfl rfl
                                      apply Walk.cons
                                      · exact ok_assign rfl rfl rfl
                                      exact Walk.nil _
                                    case hck => kernel_rfl
                                    case hQ =>
                                      intro ρ A w1 h
                                      have hal2 := acP_lt (v := x.1) hxn fr
                                      refine wp_seq ?_
                                      apply seq_dag hmix h
                                      case hw =>
                                        apply Walk.cons
                                        · exact ok_move rfl rfl rfl
                                        apply Walk.cons
                                        · exact ok_move rfl rfl rfl
                                        apply Walk.cons
                                        · exact o_bin rfl rfl rfl rfl (r_neqz (decide_eq_false (fun hne => hne rfl)))
                                        apply Walk.cons
                                        · exact ok_move rfl rfl rfl
                                        apply Walk.cons
                                        · first | exact ok_skip rfl | exact ok_skip_u rfl | exact o_load31 rfl rfl rfl rfl
                                        apply Walk.cons
                                        · first | exact ok_skip rfl | exact ok_skip_u rfl | exact o_load31 rfl rfl rfl rfl
                                        apply Walk.cons
                                        · first | exact ok_skip rfl | exact ok_skip_u rfl | exact o_neq31 rfl rfl rfl rfl hal2 hal2 (c := false) (by simp)
                                        apply Walk.cons
                                        · first | exact ok_pick_true rfl rfl rfl rfl | exact ok_pick_false rfl rfl rfl rfl
                                        apply Walk.cons
                                        · exact ok_move rfl rfl rfl
                                        apply Walk.cons
                                        · first | exact ok_skip rfl | exact ok_skip_u rfl | exact ok_move rfl rfl rfl
                                        apply Walk.cons
                                        · first | exact ok_skip rfl | exact ok_skip_u rfl | exact ok_move rfl rfl rfl
                                        apply Walk.cons
                                        · first | exact ok_skip rfl | exact ok_skip_u rfl | exact o_neqb rfl rfl rfl rfl (c := false) (by simp)
                                        apply Walk.cons
                                        · first | exact ok_pick_true rfl rfl rfl rfl | exact ok_pick_false rfl rfl rfl rfl
                                        exact Walk.nil _
                                      case hck => kernel_rfl
                                      case hQ =>
                                        intro ρ A w1 h
                                        refine if_false' h rfl (wp_skip (Exit.then_normal ?_))
                                        refine wp_fold (fun a w6 => ∃ ρ, Rep 248 ⟨[(1, .v (.slice ad2 addrs.length cap2)), (6, .p 26 0), (7, .p 27 0), (8, lsl m c), (16, .v (.int .i64 (i : Nat)))], [(26, .ext (tabA TA)), (27, .ext (tabA TB)), (98, .ext (listA m c))]⟩ ρ { W := w } a w6) ?_ ?_
                                        · apply seq_dag hmix h
                                          case hw =>
                                            apply Walk.cons
                                            · exact ok_assign rfl rfl rfl
                                            exact Walk.nil _
                                          case hck => kernel_rfl
                                          case hQ =>
                                            intro ρ A w1 h
                                            refine wp_block ?_
                                            refine rep_loop m.length (fun (k : Nat) => (⟨[(1, .v (.slice ad2 addrs.length cap2)), (6, .p 26 0), (7, .p 27 0), (8, lsl m c), (16, .v (.int .i64 (i : Nat))), (18, .p 18 0), (19, .v (.bool fr.isSome)), (23, .v (.int .i64 (k : Nat)))], [(26, .ext (tabA TA)), (27, .ext (tabA TB)), (98, .ext (listA m c)), (18, .mk (acC (acP x.1 x.2 fr)) 31)]⟩ : St)) (h.plain _ ⟨rfl, rfl, rfl, rfl, rfl, rfl, rfl, rfl, trivial⟩ ⟨rfl, rfl, rfl, rfl, trivial⟩ rfl) ?_
                                            clear h
                                            intro k ρ act w6 hk h
                                            by_cases hkl : k < m.length
                                            · refine wp_seq ?_
                                              apply seq_dag hmix h
                                              case hw =>
                                                apply Walk.cons
                                                · exact ok_move rfl rfl rfl
                                                apply Walk.cons
                                                · exact ok_move rfl rfl rfl
                                                apply Walk.cons
                                                · exact o_llen rfl rfl rfl
                                                apply Walk.cons
                                                · exact o_bin rfl rfl rfl rfl (r_lss (a := k) (b := m.length) (decide_eq_true hkl))
                                                exact Walk.nil _
                                              case hck => kernel_rfl
                                              case hQ =>
                                                intro ρ A w1 h
                                                refine if_true' h rfl (wp_skip ?_)
                                                refine Exit.then_normal ?_
                                                refine wp_seq (wp_block ?_)
                                                obtain ⟨q, hq⟩ : ∃ q, m[k]? = some q := ⟨_, List.getElem?_eq_getElem hkl⟩
                                                have hqok := hmok k q hq
                                                have hhas : ∀ w, Calls Try.prog 16 #[.agg (pfc q.v q.n q.b), .agg (adc x.1 x.2)] w fun e w' => e = .returned (.bool (hasB q.v q.n q.bn x.1 x.2)) ∧ Below w.heap.size w w' := fun w => by
                                                  have := has_any q.v q.n q.bn x.1 x.2 (Nat.le_trans hqok.le (mostA_le _)) w
                                                  rwa [← hqok.bn] at this
                                                apply seq_dag hmix h
                                                case hw =>
                                                  apply Walk.cons
                                                  · exact ok_move rfl rfl rfl
                                                  apply Walk.cons
                                                  · exact ok_move rfl rfl rfl
                                                  apply Walk.cons
                                                  · exact o_lat rfl rfl rfl rfl hkl
                                                  apply Walk.cons
                                                  · exact ok_fld rfl rfl rfl fo40_2 rfl
                                                  apply Walk.cons
                                                  · exact o_ll31 rfl rfl rfl rfl hq
                                                  apply Walk.cons
                                                  · exact ok_move rfl rfl rfl
                                                  apply Walk.cons
                                                  · exact ok_move rfl rfl rfl
                                                  apply Walk.cons
                                                  · exact o_rat rfl rfl rfl rfl u37 sz24 had2 (by omega)
                                                  apply Walk.cons
                                                  · exact o_a24 rfl rfl rfl (fun h => h) hxc
                                                  apply Walk.cons
                                                  · exact ok_call_val rfl rfl fn16 [.v _, .v _] rfl (rd := []) (fun _ w _ _ => hhas w)
                                                  apply Walk.cons
                                                  · exact ok_assign rfl rfl rfl
                                                  exact Walk.nil _
                                                case hck => kernel_rfl
                                                case hQ =>
                                                  intro ρ A w1 h
                                                  have hok2 : hasB q.v q.n q.bn x.1 x.2 = true → ∃ d' o', fr = some (d', o') ∧ q.bn ≤ d' := fun hb => by rw [← hfr]; exact has_find hA hq hqok hxn (hasB_true hb)
                                                  refine wp_fold (fun a w7 => ∃ ρ, Rep 248 ⟨[(1, .v (.slice ad2 addrs.length cap2)), (6, .p 26 0), (7, .p 27 0), (8, lsl m c), (16, .v (.int .i64 (i : Nat))), (18, .p 18 0), (19, .v (.bool fr.isSome)), (23, .v (.int .i64 (k : Nat)))], [(26, .ext (tabA TA)), (27, .ext (tabA TB)), (98, .ext (listA m c)), (18, .mk (acC (acP x.1 x.2 fr)) 31)]⟩ ρ { W := w } a w7) ?_ ?_
                                                  · generalize hasB q.v q.n q.bn x.1 x.2 = hb at h hok2
                                                    cases hb with
                                                    | false =>
                                                      apply seq_dag hmix h
                                                      case hw =>
                                                        apply Walk.cons
                                                        · exact ok_move rfl rfl rfl
                                                        apply Walk.cons
                                                        · exact ok_move rfl rfl rfl
                                                        apply Walk.cons
                                                        · first | exact ok_skip rfl | exact ok_skip_u rfl | exact ok_move rfl rfl rfl
                                                        apply Walk.cons
                                                        · first | exact ok_skip rfl | exact ok_skip_u rfl | exact ok_not rfl rfl rfl rfl
                                                        apply Walk.cons
                                                        · first | exact ok_skip rfl | exact ok_skip_u rfl | exact ok_move rfl rfl rfl
                                                        apply Walk.cons
                                                        · first | exact ok_skip rfl | exact ok_skip_u rfl | exact ok_move rfl rfl rfl
                                                        apply Walk.cons
                                                        · first | exact ok_skip rfl | exact ok_skip_u rfl | exact ok_move rfl rfl rfl
                                                        apply Walk.cons
                                                        · first | exact ok_skip rfl | exact ok_skip_u rfl | exact o_lat rfl rfl rfl rfl hkl
                                                        apply Walk.cons
                                                        · first | exact ok_skip rfl | exact ok_skip_u rfl | exact ok_fld rfl rfl rfl fo40_2 rfl
                                                        apply Walk.cons
                                                        · first | exact ok_skip rfl | exact ok_skip_u rfl | exact ok_fld rfl rfl rfl fo31_1 rfl
                                                        apply Walk.cons
                                                        · first | exact ok_skip rfl | exact ok_skip_u rfl | exact o_ll3b rfl rfl rfl rfl hq
                                                        apply Walk.cons
                                                        · first | exact ok_skip rfl | exact ok_skip_u rfl | exact ok_fld rfl rfl rfl fo31_1 rfl | exact ok_fld_v rfl rfl rfl fo31_1 rfl
                                                        apply Walk.cons
                                                        · first | exact ok_skip rfl | exact ok_skip_u rfl | exact ok_load_cell rfl rfl rfl rfl one3 rfl
                                                        apply Walk.cons
                                                        · first | exact ok_skip rfl | exact ok_skip_u rfl | exact o_bin rfl rfl rfl rfl (r_gtri (decide_eq_false (by omega)))
                                                        apply Walk.cons
                                                        · first | exact ok_skip rfl | exact ok_skip_u rfl | exact ok_pick_true rfl rfl rfl rfl | exact ok_pick_false rfl rfl rfl rfl
                                                        apply Walk.cons
                                                        · first | exact ok_pick_true rfl rfl rfl rfl | exact ok_pick_false rfl rfl rfl rfl
                                                        exact Walk.nil _
                                                      case hck => kernel_rfl
                                                      case hQ =>
                                                        intro ρ A w1 h
                                                        refine if_false' h rfl (wp_skip (Exit.then_normal ?_))
                                                        exact ⟨_, h.plain _ ⟨rfl, rfl, rfl, rfl, rfl, rfl, rfl, rfl, trivial⟩ ⟨rfl, rfl, rfl, rfl, trivial⟩ rfl⟩
                                                    | true =>
                                                      obtain ⟨d', o', rfl, hle⟩ := hok2 rfl
                                                      have hqb := hqok.bn
                                                      apply seq_dag hmix h
                                                      case hw =>
                                                        apply Walk.cons
                                                        · exact ok_move rfl rfl rfl
                                                        apply Walk.cons
                                                        · exact ok_move rfl rfl rfl
                                                        apply Walk.cons
                                                        · first | exact ok_skip rfl | exact ok_skip_u rfl | exact ok_move rfl rfl rfl
                                                        apply Walk.cons
                                                        · first | exact ok_skip rfl | exact ok_skip_u rfl | exact ok_not rfl rfl rfl rfl
                                                        apply Walk.cons
                                                        · first | exact ok_skip rfl | exact ok_skip_u rfl | exact ok_move rfl rfl rfl
                                                        apply Walk.cons
                                                        · first | exact ok_skip rfl | exact ok_skip_u rfl | exact ok_move rfl rfl rfl
                                                        apply Walk.cons
                                                        · first | exact ok_skip rfl | exact ok_skip_u rfl | exact ok_move rfl rfl rfl
                                                        apply Walk.cons
                                                        · first | exact ok_skip rfl | exact ok_skip_u rfl | exact o_lat rfl rfl rfl rfl hkl
                                                        apply Walk.cons
                                                        · first | exact ok_skip rfl | exact ok_skip_u rfl | exact ok_fld rfl rfl rfl fo40_2 rfl
                                                        apply Walk.cons
                                                        · first | exact ok_skip rfl | exact ok_skip_u rfl | exact ok_fld rfl rfl rfl fo31_1 rfl
                                                        apply Walk.cons
                                                        · first | exact ok_skip rfl | exact ok_skip_u rfl | exact o_ll3b rfl rfl rfl rfl hq
                                                        apply Walk.cons
                                                        · first | exact ok_skip rfl | exact ok_skip_u rfl | exact ok_fld rfl rfl rfl fo31_1 rfl | exact ok_fld_v rfl rfl rfl fo31_1 rfl
                                                        apply Walk.cons
                                                        · first | exact ok_skip rfl | exact ok_skip_u rfl | exact ok_load_cell rfl rfl rfl rfl one3 rfl
                                                        apply Walk.cons
                                                        · first | exact ok_skip rfl | exact ok_skip_u rfl | exact o_bin rfl rfl rfl rfl (r_gtri (decide_eq_false (show ¬ (q.b > ((d' : Nat) : Int)) by omega)))
                                                        apply Walk.cons
                                                        · first | exact ok_skip rfl | exact ok_skip_u rfl | exact ok_pick_true rfl rfl rfl rfl | exact ok_pick_false rfl rfl rfl rfl
                                                        apply Walk.cons
                                                        · first | exact ok_pick_true rfl rfl rfl rfl | exact ok_pick_false rfl rfl rfl rfl
                                                        exact Walk.nil _
                                                      case hck => kernel_rfl
                                                      case hQ =>
                                                        intro ρ A w1 h
                                                        refine if_false' h rfl (wp_skip (Exit.then_normal ?_))
                                                        exact ⟨_, h.plain _ ⟨rfl, rfl, rfl, rfl, rfl, rfl, rfl, rfl, trivial⟩ ⟨rfl, rfl, rfl, rfl, trivial⟩ rfl⟩
                                                  · rintro a w7 ⟨ρ, h⟩
                                                    refine Exit.block_normal (Exit.then_normal ?_)
                                                    apply region_dag hmix h
                                                    case hw =>
                                                      apply Walk.cons
                                                      · exact ok_move rfl rfl rfl
                                                      apply Walk.cons
                                                      · exact o_bin rfl rfl rfl rfl (r_addi (a := k) (b := 1) (by omega))
                                                      apply Walk.cons
                                                      · exact ok_assign rfl rfl rfl
                                                      exact Walk.nil _
                                                    case hck => kernel_rfl
                                                    case hQ =>
                                                      intro ρ A w1 h
                                                      exact ⟨_, hkl, h.plain _ ⟨rfl, rfl, rfl, rfl, rfl, rfl, rfl, rfl, trivial⟩ ⟨rfl, rfl, rfl, rfl, trivial⟩ rfl⟩
                                            · obtain rfl : k = m.length := by omega
                                              refine wp_seq ?_
                                              apply seq_dag hmix h
                                              case hw =>
                                                apply Walk.cons
                                                · exact ok_move rfl rfl rfl
                                                apply Walk.cons
                                                · exact ok_move rfl rfl rfl
                                                apply Walk.cons
                                                · exact o_llen rfl rfl rfl
                                                apply Walk.cons
                                                · exact o_bin rfl rfl rfl rfl (r_lss (a := m.length) (b := m.length) (decide_eq_false hkl))
                                                exact Walk.nil _
                                              case hck => kernel_rfl
                                              case hQ =>
                                                intro ρ A w1 h
                                                refine if_false' h rfl (wp_exit (at_exit' ?_))
                                                refine Exit.then_normal ?_
                                                exact ⟨_, h.plain _ ⟨rfl, rfl, rfl, rfl, rfl, trivial⟩ ⟨rfl, rfl, rfl, trivial⟩ rfl⟩
                                        · rintro a w6 ⟨ρ, h⟩
                                          refine Exit.block_normal (Exit.then_normal ?_)
                                          apply region_dag hmix h
                                          case hw =>
                                            apply Walk.cons
                                            · exact ok_move rfl rfl rfl
                                            apply Walk.cons
                                            · exact o_bin rfl rfl rfl rfl (r_addi (a := i) (b := 1) (by omega))
                                            apply Walk.cons
                                            · exact ok_assign rfl rfl rfl
                                            exact Walk.nil _
                                          case hck => kernel_rfl
                                          case hQ =>
                                            intro ρ A w1 h
                                            exact ⟨_, hia2, h.plain _ ⟨rfl, rfl, rfl, rfl, rfl, trivial⟩ ⟨rfl, rfl, rfl, trivial⟩ rfl⟩
                              · obtain rfl : i = addrs.length := by omega
                                refine wp_seq ?_
                                apply seq_dag hmix h
                                case hw =>
                                  apply Walk.cons
                                  · exact ok_move rfl rfl rfl
                                  apply Walk.cons
                                  · exact ok_move rfl rfl rfl
                                  apply Walk.cons
                                  · exact ok_len_ro rfl rfl rfl u37
                                  apply Walk.cons
                                  · exact o_bin rfl rfl rfl rfl (r_lss (a := addrs.length) (b := addrs.length) (decide_eq_false hia2))
                                  exact Walk.nil _
                                case hck => kernel_rfl
                                case hQ =>
                                  intro ρ A w1 h
                                  refine if_false' h rfl (wp_exit (at_exit' ?_))
                                  refine Exit.then_normal ?_
                                  apply seq_dag hmix h
                                  case hw =>
                                    apply Walk.cons
                                    · exact ok_move rfl rfl rfl
                                    apply Walk.cons
                                    · exact o_len (M := TA) (c := m.length) rfl rfl rfl rfl hAc
                                    apply Walk.cons
                                    · exact ok_move rfl rfl rfl
                                    apply Walk.cons
                                    · exact o_llen rfl rfl rfl
                                    apply Walk.cons
                                    · exact o_bin rfl rfl rfl rfl (r_eqli (a := m.length) (b := m.length) (decide_eq_true rfl))
                                    apply Walk.cons
                                    · exact ok_move rfl rfl rfl
                                    apply Walk.cons
                                    · first | exact ok_skip rfl | exact ok_skip_u rfl | exact ok_move rfl rfl rfl
                                    apply Walk.cons
                                    · first | exact ok_skip rfl | exact ok_skip_u rfl | exact o_len (M := TB) (c := m.length) rfl rfl rfl rfl hBc
                                    apply Walk.cons
                                    · first | exact ok_skip rfl | exact ok_skip_u rfl | exact ok_move rfl rfl rfl
                                    apply Walk.cons
                                    · first | exact ok_skip rfl | exact ok_skip_u rfl | exact o_llen rfl rfl rfl
                                    apply Walk.cons
                                    · first | exact ok_skip rfl | exact ok_skip_u rfl | exact o_bin rfl rfl rfl rfl (r_eqli (a := m.length) (b := m.length) (decide_eq_true rfl))
                                    apply Walk.cons
                                    · first | exact ok_pick_true rfl rfl rfl rfl | exact ok_pick_false rfl rfl rfl rfl
                                    apply Walk.cons
                                    · exact ok_assign rfl rfl rfl
                                    exact Walk.nil _
                                  case hck => kernel_rfl
                                  case hQ =>
                                    intro ρ A w1 h
                                    refine wp_ret ?_
                                    repeat (first | refine Exit.thenRet ?_ | refine Exit.blockRet ?_)
                                    refine h.result_tmp Try.results5 rfl ?_
                                    exact ⟨rfl, h.below⟩
end Go.Proofs.Ytnppgaohfegloaa
