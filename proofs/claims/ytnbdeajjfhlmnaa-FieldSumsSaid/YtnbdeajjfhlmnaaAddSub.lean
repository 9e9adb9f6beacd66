/-
  (limbs).add, (limbs).sub of package field.
-/
import Derived.Test.YtnbdeajjfhlmnaaRow
namespace Go.Proofs.Ytnbdeajjfhlmnaa
open Go.RowKit

def addTo (x y : L5) (k : Nat) : L5 :=
  ⟨if 0 < k then x.a0 + y.a0 else x.a0, if 1 < k then x.a1 + y.a1 else x.a1, if 2 < k then x.a2 + y.a2 else x.a2, if 3 < k then x.a3 + y.a3 else x.a3, if 4 < k then x.a4 + y.a4 else x.a4⟩
theorem addTo_zero (x y : L5) : addTo x y 0 = x := rfl
theorem addTo_step (x y : L5) (k : Nat) (hk : k < 5) : (addTo x y k).set k ((addTo x y k).get k + y.get k) = addTo x y (k + 1) := by
  have : k = 0 ∨ k = 1 ∨ k = 2 ∨ k = 3 ∨ k = 4 := by omega
  rcases this with rfl | rfl | rfl | rfl | rfl <;> rfl
theorem addTo_lt {x y : L5} (hx : Loose x) (hy : Loose y) (k : Nat) (hk : k < 5) : (addTo x y k).get k + y.get k < 9007199254740992 := by
  obtain ⟨h0, h1, h2, h3, h4⟩ := hx
  obtain ⟨g0, g1, g2, g3, g4⟩ := hy
  have : k = 0 ∨ k = 1 ∨ k = 2 ∨ k = 3 ∨ k = 4 := by omega
  rcases this with rfl | rfl | rfl | rfl | rfl <;> simp [addTo, L5.get] <;> omega
/-- 'add' -/
def addL (x y : L5) : L5 := carryL (addTo x y 5)
theorem addTo_w5 {x y : L5} (hx : Loose x) (hy : Loose y) : W5 (addTo x y 5) := by
  obtain ⟨h0, h1, h2, h3, h4⟩ := hx
  obtain ⟨g0, g1, g2, g3, g4⟩ := hy
  refine ⟨?_, ?_, ?_, ?_, ?_⟩ <;> simp [addTo] <;> omega
theorem fn51 : goFn Try.prog 51 = true := by kernel_rfl

def addS (x y : L5) (k : Nat) : St := ⟨[(2, .p 2 0), (3, .p 3 0), (4, .p 4 0), (6, .v (.int .i64 k))], [(2, ⟨lvc (addTo x y k), 41⟩), (3, ⟨lvc y, 41⟩), (4, ⟨lvc ⟨0, 0, 0, 0, 0⟩, 41⟩)]⟩

theorem add_any (x y : L5) (hx : Loose x) (hy : Loose y) (w : World) : Calls Try.prog 41 #[lv x, lv y] w fun e w' => e = .returned (lv (addL x y)) ∧ Below w.heap.size w w' := by
  go_enter Try.func41, Try.ntmps41
  have h := Rep.start (N := 20) [lv x, lv y] [undef, undef, undef, undef, undef, undef, undef, undef, undef, undef, undef, undef, undef, undef, undef, undef, undef, undef] w rfl
  apply seq_dag hmix h
  case hw =>
    apply Walk.cons
    · exact o_box41 2 rfl rfl rfl
    apply Walk.cons
    · exact o_box41 3 rfl rfl rfl
    apply Walk.cons
    · exact o_alloc41 4 rfl rfl
    exact Walk.nil _
  case hck => kernel_rfl
  case hQ =>
    intro ρ A w1 h
    refine wp_seq ?_
    apply seq_dag hmix h
    case hw =>
      apply Walk.cons
      · exact ok_move rfl rfl rfl
      exact Walk.nil _
    case hck => kernel_rfl
    case hQ =>
      intro ρ A w1 h
      have h := h.plain (addS x y 0) ⟨rfl, rfl, rfl, rfl, trivial⟩ ⟨rfl, rfl, rfl, trivial⟩ rfl
      refine wp_block ?_
      refine rep_loop 5 (addS x y) h ?_
      intro k ρ A w2 hk h
      by_cases hlt : k < 5
      · have hb := addTo_lt hx hy k hlt
        apply seq_dag hmix h
        case hw =>
          apply Walk.cons
          · exact o_bin rfl rfl rfl rfl (r_lss (decide_eq_true hlt))
          exact Walk.nil _
        case hck => kernel_rfl
        case hQ =>
          intro ρ A w1 h
          refine go_on h rfl ?_
          refine wp_seq (wp_block ?_)
          apply seq_dag hmix h
          case hw =>
            apply Walk.cons
            · exact ok_move rfl rfl rfl
            apply Walk.cons
            · exact ok_assign rfl rfl rfl
            exact Walk.nil _
          case hck => kernel_rfl
          case hQ =>
            intro ρ A w1 h
            apply region_dag hmix h
            case hw =>
              apply Walk.cons
              · exact ok_move rfl rfl rfl
              apply Walk.cons
              · exact o_at41 rfl rfl rfl rfl (by omega)
              apply Walk.cons
              · exact o_load39 rfl rfl rfl rfl (by omega)
              apply Walk.cons
              · exact ok_move rfl rfl rfl
              apply Walk.cons
              · exact o_at41 rfl rfl rfl rfl (by omega)
              apply Walk.cons
              · exact o_load39 rfl rfl rfl rfl (by omega)
              apply Walk.cons
              · exact o_bin rfl rfl rfl rfl (r_add64 (a := (addTo x y k).get k) (b := y.get k) (by omega))
              apply Walk.cons
              · exact o_at41 rfl rfl rfl rfl (by omega)
              apply Walk.cons
              · exact o_store39 rfl rfl rfl rfl rfl (by omega)
              exact Walk.nil _
            case hck => kernel_rfl
            case hQ =>
              intro ρ A w1 h
              refine Exit.block_normal (Exit.then_normal ?_)
              apply region_dag hmix h
              case hw =>
                apply Walk.cons
                · exact o_bin rfl rfl rfl rfl (r_addi (a := k) (b := 1) (by omega))
                apply Walk.cons
                · exact ok_move rfl rfl rfl
                exact Walk.nil _
              case hck => kernel_rfl
              case hQ =>
                intro ρ A w1 h
                refine ⟨_, hlt, h.plain (addS x y (k + 1)) ⟨rfl, rfl, rfl, rfl, trivial⟩ ⟨?_, rfl, rfl, trivial⟩ rfl⟩
                rw [← addTo_step x y k hlt]
                rfl
      · obtain rfl : k = 5 := by omega
        apply seq_dag hmix h
        case hw =>
          apply Walk.cons
          · exact o_bin rfl rfl rfl rfl (r_lss (decide_eq_false hlt))
          exact Walk.nil _
        case hck => kernel_rfl
        case hQ =>
          intro ρ A w1 h
          refine leave h rfl ?_
          refine Exit.then_normal ?_
          apply seq_dag hmix h
          case hw =>
            apply Walk.cons
            · exact o_load41 rfl rfl rfl rfl
            apply Walk.cons
            · exact ok_call_val rfl rfl fn51 [.v _] rfl (rd := []) (fun ρ w _ _ => carry_any _ w (addTo_w5 hx hy))
            apply Walk.cons
            · exact o_store41 rfl rfl rfl rfl rfl
            exact Walk.nil _
          case hck => kernel_rfl
          case hQ =>
            intro ρ A w1 h
            refine wp_ret ?_
            exact h.result41 Try.results41 rfl rfl ⟨rfl, h.below⟩

/-- limbs of 2p -/
def twoP : L5 := ⟨4503599627370458, 4503599627370494, 4503599627370494, 4503599627370494, 4503599627370494⟩
/-- subtracted to k -/
def subTo (x y : L5) (k : Nat) : L5 :=
  ⟨if 0 < k then x.a0 + (4503599627370458 - y.a0) else x.a0, if 1 < k then x.a1 + (4503599627370494 - y.a1) else x.a1, if 2 < k then x.a2 + (4503599627370494 - y.a2) else x.a2,
   if 3 < k then x.a3 + (4503599627370494 - y.a3) else x.a3, if 4 < k then x.a4 + (4503599627370494 - y.a4) else x.a4⟩
theorem subTo_one (x y : L5) : (subTo x y 0).set 0 (x.get 0 + (4503599627370458 - y.get 0)) = subTo x y 1 := rfl
theorem subTo_step (x y : L5) (k : Nat) (hk : k < 5) (h1 : 1 ≤ k) : (subTo x y k).set k ((subTo x y k).get k + (4503599627370494 - y.get k)) = subTo x y (k + 1) := by
  have : k = 1 ∨ k = 2 ∨ k = 3 ∨ k = 4 := by omega
  rcases this with rfl | rfl | rfl | rfl <;> rfl
/-- what is below 2^51 and a little -/
theorem carry_tight {x : L5} (h : W5 x) : ∀ k, k < 5 → (carryL x).get k ≤ 4503599627370458 := by
  obtain ⟨h0, h1, h2, h3, h4⟩ := h
  intro k hk
  have : k = 0 ∨ k = 1 ∨ k = 2 ∨ k = 3 ∨ k = 4 := by omega
  rcases this with rfl | rfl | rfl | rfl | rfl <;> simp only [carryL, L5.get] <;> omega
theorem subTo_lt {x : L5} (hx : Loose x) (y : L5) (k : Nat) (hk : k < 5) (h1 : 1 ≤ k) : (subTo x y k).get k + (4503599627370494 - y.get k) < 18446744073709551616 := by
  obtain ⟨h0, h1, h2, h3, h4⟩ := hx
  have : k = 1 ∨ k = 2 ∨ k = 3 ∨ k = 4 := by omega
  rcases this with rfl | rfl | rfl | rfl <;> simp [subTo, L5.get] <;> omega
/-- 'sub' -/
def subL (x y : L5) : L5 := carryL (subTo x (carryL y) 5)
theorem subTo_w5 {x : L5} (hx : Loose x) (y : L5) : W5 (subTo x y 5) := by
  obtain ⟨h0, h1, h2, h3, h4⟩ := hx
  refine ⟨?_, ?_, ?_, ?_, ?_⟩ <;> simp [subTo] <;> omega

def subS (x y : L5) (k : Nat) : St := ⟨[(2, .p 2 0), (3, .p 3 0), (4, .p 4 0), (5, .v (.int .i64 ((k + 1 : Nat) : Int)))], [(2, ⟨lvc (subTo x y (k + 1)), 41⟩), (3, ⟨lvc y, 41⟩), (4, ⟨lvc ⟨0, 0, 0, 0, 0⟩, 41⟩)]⟩

theorem sub_any (x y : L5) (hx : Loose x) (hy : W5 y) (w : World) : Calls Try.prog 47 #[lv x, lv y] w fun e w' => e = .returned (lv (subL x y)) ∧ Below w.heap.size w w' := by
  have ht := carry_tight hy
  have ht0 := ht 0 (by decide)
  have hx0 : x.get 0 < 4503599627370496 := hx.h0
  go_enter Try.func47, Try.ntmps47
  have h := Rep.start (N := 30) [lv x, lv y] [undef, undef, undef, undef, undef, undef, undef, undef, undef, undef, undef, undef, undef, undef, undef, undef, undef, undef, undef, undef, undef, undef, undef, undef, undef, undef, undef, undef] w rfl
  apply seq_dag hmix h
  case hw =>
    apply Walk.cons
    · exact o_box41 2 rfl rfl rfl
    apply Walk.cons
    · exact o_box41 3 rfl rfl rfl
    apply Walk.cons
    · exact o_alloc41 4 rfl rfl
    exact Walk.nil _
  case hck => kernel_rfl
  case hQ =>
    intro ρ A w1 h
    apply seq_dag hmix h
    case hw =>
      apply Walk.cons
      · exact o_load41 rfl rfl rfl rfl
      apply Walk.cons
      · exact ok_call_val rfl rfl fn51 [.v _] rfl (rd := []) (fun ρ w _ _ => carry_any y w hy)
      apply Walk.cons
      · exact o_store41 rfl rfl rfl rfl rfl
      exact Walk.nil _
    case hck => kernel_rfl
    case hQ =>
      intro ρ A w1 h
      apply seq_dag hmix h
      case hw =>
        apply Walk.cons
        · exact o_at41 rfl rfl rfl rfl (by decide)
        apply Walk.cons
        · exact o_load39 rfl rfl rfl rfl (by decide)
        apply Walk.cons
        · exact o_at41 rfl rfl rfl rfl (by decide)
        apply Walk.cons
        · exact o_load39 rfl rfl rfl rfl (by decide)
        apply Walk.cons
        · exact o_bin rfl rfl rfl rfl (r_sub64 (a := 4503599627370458) (b := (carryL y).get 0) ht0 (by decide))
        apply Walk.cons
        · exact o_bin rfl rfl rfl rfl (r_add64 (a := x.get 0) (b := 4503599627370458 - (carryL y).get 0) (by omega))
        apply Walk.cons
        · exact o_at41 rfl rfl rfl rfl (by decide)
        apply Walk.cons
        · exact o_store39 rfl rfl rfl rfl rfl (by decide)
        exact Walk.nil _
      case hck => kernel_rfl
      case hQ =>
        intro ρ A w1 h
        refine wp_seq ?_
        apply seq_dag hmix h
        case hw =>
          apply Walk.cons
          · exact ok_assign rfl rfl rfl
          exact Walk.nil _
        case hck => kernel_rfl
        case hQ =>
          intro ρ A w1 h
          have h := h.plain (subS x (carryL y) 0) ⟨rfl, rfl, rfl, rfl, trivial⟩ ⟨rfl, rfl, rfl, trivial⟩ rfl
          refine wp_block ?_
          refine rep_loop 4 (subS x (carryL y)) h ?_
          intro k ρ A w2 hk h
          by_cases hlt : k + 1 < 5
          · have hb := subTo_lt hx (carryL y) (k + 1) hlt (by omega)
            have htk := ht (k + 1) hlt
            refine wp_seq ?_
            apply seq_dag hmix h
            case hw =>
              apply Walk.cons
              · exact ok_move rfl rfl rfl
              apply Walk.cons
              · exact o_bin rfl rfl rfl rfl (r_lss (decide_eq_true hlt))
              exact Walk.nil _
            case hck => kernel_rfl
            case hQ =>
              intro ρ A w1 h
              refine if_true' h rfl (wp_skip ?_)
              refine Exit.then_normal ?_
              refine wp_seq (wp_block ?_)
              apply region_dag hmix h
              case hw =>
                apply Walk.cons
                · exact ok_move rfl rfl rfl
                apply Walk.cons
                · exact o_at41 rfl rfl rfl rfl (by omega)
                apply Walk.cons
                · exact o_load39 rfl rfl rfl rfl (by omega)
                apply Walk.cons
                · exact ok_move rfl rfl rfl
                apply Walk.cons
                · exact o_at41 rfl rfl rfl rfl (by omega)
                apply Walk.cons
                · exact o_load39 rfl rfl rfl rfl (by omega)
                apply Walk.cons
                · exact o_bin rfl rfl rfl rfl (r_sub64 (a := 4503599627370494) (b := (carryL y).get (k + 1)) (by omega) (by decide))
                apply Walk.cons
                · exact o_bin rfl rfl rfl rfl (r_add64 (a := (subTo x (carryL y) (k + 1)).get (k + 1)) (b := 4503599627370494 - (carryL y).get (k + 1)) (by omega))
                apply Walk.cons
                · exact o_at41 rfl rfl rfl rfl (by omega)
                apply Walk.cons
                · exact o_store39 rfl rfl rfl rfl rfl (by omega)
                exact Walk.nil _
              case hck => kernel_rfl
              case hQ =>
                intro ρ A w1 h
                refine Exit.block_normal (Exit.then_normal ?_)
                apply region_dag hmix h
                case hw =>
                  apply Walk.cons
                  · exact ok_move rfl rfl rfl
                  apply Walk.cons
                  · exact o_bin rfl rfl rfl rfl (r_addi (a := k + 1) (b := 1) (by omega))
                  apply Walk.cons
                  · exact ok_assign rfl rfl rfl
                  exact Walk.nil _
                case hck => kernel_rfl
                case hQ =>
                  intro ρ A w1 h
                  refine ⟨_, by omega, h.plain (subS x (carryL y) (k + 1)) ⟨rfl, rfl, rfl, rfl, trivial⟩ ⟨?_, rfl, rfl, trivial⟩ rfl⟩
                  rw [← subTo_step x (carryL y) (k + 1) hlt (by omega)]
                  rfl
          · obtain rfl : k = 4 := by omega
            refine wp_seq ?_
            apply seq_dag hmix h
            case hw =>
              apply Walk.cons
              · exact ok_move rfl rfl rfl
              apply Walk.cons
              · exact o_bin rfl rfl rfl rfl (r_lss (decide_eq_false hlt))
              exact Walk.nil _
            case hck => kernel_rfl
            case hQ =>
              intro ρ A w1 h
              refine if_false' h rfl (wp_exit ?_)
              refine at_exit' ?_
              refine Exit.then_normal ?_
              apply seq_dag hmix h
              case hw =>
                apply Walk.cons
                · exact o_load41 rfl rfl rfl rfl
                apply Walk.cons
                · exact ok_call_val rfl rfl fn51 [.v _] rfl (rd := []) (fun ρ w _ _ => carry_any _ w (subTo_w5 hx (carryL y)))
                apply Walk.cons
                · exact o_store41 rfl rfl rfl rfl rfl
                exact Walk.nil _
              case hck => kernel_rfl
              case hQ =>
                intro ρ A w1 h
                refine wp_ret ?_
                exact h.result41 Try.results47 rfl rfl ⟨rfl, h.below⟩
end Go.Proofs.Ytnbdeajjfhlmnaa
