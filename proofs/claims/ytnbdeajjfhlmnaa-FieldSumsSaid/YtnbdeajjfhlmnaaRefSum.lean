/-
  aditref01.Add and Mul, of slices.
-/
import Derived.Test.YtnbdeajjfhlmnaaRefs
import Derived.Test.YtnbdeajjfhlmnaaGrow
namespace Go.Proofs.Ytnbdeajjfhlmnaa
open Go.RowKit

def rradd17S (v : Value) (l : List Nat) (k : Nat) : St := ⟨[(0, .v v), (2, .p 2 0), (3, .p 3 0), (4, .v (.int .i64 k))], [(2, ⟨bvc 0, 24⟩), (3, ⟨bvc (sumT l k % pp), 24⟩)]⟩
theorem radd17_any (l : List Nat) (hl : ∀ j, l.getD j 0 < 2 ^ 256) (hlen : l.length < 9223372036854775807) (v : Value) (w : World) (hs : Sl w v l) :
    Calls Try.prog 17 #[v] w fun e w' => e = .returned (bv (sumT l l.length % pp)) ∧ Below w.heap.size w w' := by
  obtain ⟨ad, cap, rfl, hcap, hc⟩ := hs
  go_enter Try.func17, Try.ntmps17
  have h := Rep.start (N := 18) [.slice ad l.length cap] [undef, undef, undef, undef, undef, undef, undef, undef, undef, undef, undef, undef, undef, undef, undef, undef, undef] w rfl
  apply seq_dag hmix h
  case hw =>
    apply Walk.cons
    · exact o_alloc24 2 rfl rfl
    exact Walk.nil _
  case hck => kernel_rfl
  case hQ =>
    intro ρ A w1 h
    apply seq_dag hmix h
    case hw =>
      apply Walk.cons
      · exact o_alloc24 3 rfl rfl
      exact Walk.nil _
    case hck => kernel_rfl
    case hQ =>
      intro ρ A w1 h
      refine wp_seq ?_
      apply seq_dag hmix h
      case hw =>
        apply Walk.cons
        · exact ok_assign rfl rfl rfl
        exact Walk.nil _
      case hck => kernel_rfl
      case hQ =>
        intro ρ A w1 h
        have h := h.plain (rradd17S (.slice ad l.length cap) l 0) ⟨rfl, rfl, rfl, rfl, trivial⟩ ⟨rfl, by rw [show sumT l 0 % pp = 0 from by simp only [sumT]; decide]; rfl, trivial⟩ rfl
        refine wp_block ?_
        refine rep_loop l.length (rradd17S (.slice ad l.length cap) l) h ?_
        intro k ρ A w2 hk h
        by_cases hlt : k < l.length
        · obtain ⟨g, off, rfl, hcell⟩ := hc k hlt
          have hlk := hl k
          refine wp_seq ?_
          apply seq_dag hmix h
          case hw =>
            apply Walk.cons
            · exact ok_move rfl rfl rfl
            apply Walk.cons
            · exact ok_move rfl rfl rfl
            apply Walk.cons
            · exact o_len22 rfl rfl rfl rfl
            apply Walk.cons
            · exact o_bin rfl rfl rfl rfl (r_lss (a := k) (b := l.length) (decide_eq_true hlt))
            exact Walk.nil _
          case hck => kernel_rfl
          case hQ =>
            intro ρ A w1 h
            refine if_true' h rfl (wp_skip ?_)
            refine Exit.then_normal ?_
            refine wp_seq (wp_block ?_)
            apply region_dag hmix h
            case hw =>
              apply Walk.cons
              · exact o_load24 rfl rfl rfl rfl
              apply Walk.cons
              · exact ok_move rfl rfl rfl
              apply Walk.cons
              · exact ok_move rfl rfl rfl
              apply Walk.cons
              · exact o_at22 rfl rfl rfl rfl hlt
              apply Walk.cons
              · exact o_load24ro (n := l.getD k 0) rfl rfl rfl (fun h => h) hcell
              apply Walk.cons
              · exact ok_call_val rfl rfl (by kernel_rfl) [.v _, .v _] rfl (rd := []) (fun ρ w _ _ => plus45_any (sumT l k % pp) (l.getD k 0) (pp_lt _) hlk w)
              apply Walk.cons
              · exact o_store24 rfl rfl rfl rfl rfl
              exact Walk.nil _
            case hck => kernel_rfl
            case hQ =>
              intro ρ A w1 h
              refine Exit.block_normal (Exit.then_normal ?_)
              apply region_dag hmix h
              case hw =>
                apply Walk.cons
                · exact ok_move rfl rfl rfl
                apply Walk.cons
                · exact o_bin rfl rfl rfl rfl (r_addi (a := k) (b := 1) (by omega))
                apply Walk.cons
                · exact ok_assign rfl rfl rfl
                exact Walk.nil _
              case hck => kernel_rfl
              case hQ =>
                intro ρ A w1 h
                have e : (sumT l k % pp + l.getD k 0) % pp = sumT l (k + 1) % pp := Nat.mod_add_mod _ _ _
                exact ⟨_, hlt, h.plain (rradd17S (.slice (some ⟨g, off, none⟩) l.length cap) l (k + 1)) ⟨rfl, rfl, rfl, rfl, trivial⟩ ⟨rfl, by rw [← e]; rfl, trivial⟩ rfl⟩
        · obtain rfl : k = l.length := by omega
          refine wp_seq ?_
          apply seq_dag hmix h
          case hw =>
            apply Walk.cons
            · exact ok_move rfl rfl rfl
            apply Walk.cons
            · exact ok_move rfl rfl rfl
            apply Walk.cons
            · exact o_len22 rfl rfl rfl rfl
            apply Walk.cons
            · exact o_bin rfl rfl rfl rfl (r_lss (a := l.length) (b := l.length) (decide_eq_false hlt))
            exact Walk.nil _
          case hck => kernel_rfl
          case hQ =>
            intro ρ A w1 h
            refine if_false' h rfl (wp_exit (at_exit' ?_))
            refine Exit.then_normal ?_
            apply seq_dag hmix h
            case hw =>
              apply Walk.cons
              · exact o_load24 rfl rfl rfl rfl
              apply Walk.cons
              · exact o_store24 rfl rfl rfl rfl rfl
              exact Walk.nil _
            case hck => kernel_rfl
            case hQ =>
              intro ρ A w1 h
              refine wp_ret ?_
              exact h.result24 Try.results17 rfl rfl ⟨rfl, h.below⟩
def rrmul18S (v : Value) (l : List Nat) (k : Nat) : St := ⟨[(0, .v v), (2, .p 2 0), (3, .p 3 0), (4, .v (.int .i64 k))], [(2, ⟨bvc 0, 24⟩), (3, ⟨bvc (prodT l k % pp), 24⟩)]⟩
theorem rmul18_any (l : List Nat) (hl : ∀ j, l.getD j 0 < 2 ^ 256) (hlen : l.length < 9223372036854775807) (v : Value) (w : World) (hs : Sl w v l) :
    Calls Try.prog 18 #[v] w fun e w' => e = .returned (bv (prodT l l.length % pp)) ∧ Below w.heap.size w w' := by
  obtain ⟨ad, cap, rfl, hcap, hc⟩ := hs
  go_enter Try.func18, Try.ntmps18
  have h := Rep.start (N := 19) [.slice ad l.length cap] [undef, undef, undef, undef, undef, undef, undef, undef, undef, undef, undef, undef, undef, undef, undef, undef, undef, undef] w rfl
  apply seq_dag hmix h
  case hw =>
    apply Walk.cons
    · exact o_alloc24 2 rfl rfl
    exact Walk.nil _
  case hck => kernel_rfl
  case hQ =>
    intro ρ A w1 h
    apply seq_dag hmix h
    case hw =>
      apply Walk.cons
      · exact o_built rfl rfl (by kernel_rfl) (v := bv 1) (fun w => by kernel_rfl)
      apply Walk.cons
      · exact o_alloc24 3 rfl rfl
      apply Walk.cons
      · exact o_store24 rfl rfl rfl rfl rfl
      exact Walk.nil _
    case hck => kernel_rfl
    case hQ =>
      intro ρ A w1 h
      refine wp_seq ?_
      apply seq_dag hmix h
      case hw =>
        apply Walk.cons
        · exact ok_assign rfl rfl rfl
        exact Walk.nil _
      case hck => kernel_rfl
      case hQ =>
        intro ρ A w1 h
        have h := h.plain (rrmul18S (.slice ad l.length cap) l 0) ⟨rfl, rfl, rfl, rfl, trivial⟩ ⟨rfl, by rw [show prodT l 0 % pp = 1 from by simp only [prodT]; decide]; rfl, trivial⟩ rfl
        refine wp_block ?_
        refine rep_loop l.length (rrmul18S (.slice ad l.length cap) l) h ?_
        intro k ρ A w2 hk h
        by_cases hlt : k < l.length
        · obtain ⟨g, off, rfl, hcell⟩ := hc k hlt
          have hlk := hl k
          refine wp_seq ?_
          apply seq_dag hmix h
          case hw =>
            apply Walk.cons
            · exact ok_move rfl rfl rfl
            apply Walk.cons
            · exact ok_move rfl rfl rfl
            apply Walk.cons
            · exact o_len22 rfl rfl rfl rfl
            apply Walk.cons
            · exact o_bin rfl rfl rfl rfl (r_lss (a := k) (b := l.length) (decide_eq_true hlt))
            exact Walk.nil _
          case hck => kernel_rfl
          case hQ =>
            intro ρ A w1 h
            refine if_true' h rfl (wp_skip ?_)
            refine Exit.then_normal ?_
            refine wp_seq (wp_block ?_)
            apply region_dag hmix h
            case hw =>
              apply Walk.cons
              · exact o_load24 rfl rfl rfl rfl
              apply Walk.cons
              · exact ok_move rfl rfl rfl
              apply Walk.cons
              · exact ok_move rfl rfl rfl
              apply Walk.cons
              · exact o_at22 rfl rfl rfl rfl hlt
              apply Walk.cons
              · exact o_load24ro (n := l.getD k 0) rfl rfl rfl (fun h => h) hcell
              apply Walk.cons
              · exact ok_call_val rfl rfl (by kernel_rfl) [.v _, .v _] rfl (rd := []) (fun ρ w _ _ => times46_any (prodT l k % pp) (l.getD k 0) (pp_lt _) hlk w)
              apply Walk.cons
              · exact o_store24 rfl rfl rfl rfl rfl
              exact Walk.nil _
            case hck => kernel_rfl
            case hQ =>
              intro ρ A w1 h
              refine Exit.block_normal (Exit.then_normal ?_)
              apply region_dag hmix h
              case hw =>
                apply Walk.cons
                · exact ok_move rfl rfl rfl
                apply Walk.cons
                · exact o_bin rfl rfl rfl rfl (r_addi (a := k) (b := 1) (by omega))
                apply Walk.cons
                · exact ok_assign rfl rfl rfl
                exact Walk.nil _
              case hck => kernel_rfl
              case hQ =>
                intro ρ A w1 h
                have e : (prodT l k % pp * l.getD k 0) % pp = prodT l (k + 1) % pp := Nat.mod_mul_mod _ _ _
                exact ⟨_, hlt, h.plain (rrmul18S (.slice (some ⟨g, off, none⟩) l.length cap) l (k + 1)) ⟨rfl, rfl, rfl, rfl, trivial⟩ ⟨rfl, by rw [← e]; rfl, trivial⟩ rfl⟩
        · obtain rfl : k = l.length := by omega
          refine wp_seq ?_
          apply seq_dag hmix h
          case hw =>
            apply Walk.cons
            · exact ok_move rfl rfl rfl
            apply Walk.cons
            · exact ok_move rfl rfl rfl
            apply Walk.cons
            · exact o_len22 rfl rfl rfl rfl
            apply Walk.cons
            · exact o_bin rfl rfl rfl rfl (r_lss (a := l.length) (b := l.length) (decide_eq_false hlt))
            exact Walk.nil _
          case hck => kernel_rfl
          case hQ =>
            intro ρ A w1 h
            refine if_false' h rfl (wp_exit (at_exit' ?_))
            refine Exit.then_normal ?_
            apply seq_dag hmix h
            case hw =>
              apply Walk.cons
              · exact o_load24 rfl rfl rfl rfl
              apply Walk.cons
              · exact o_store24 rfl rfl rfl rfl rfl
              exact Walk.nil _
            case hck => kernel_rfl
            case hQ =>
              intro ρ A w1 h
              refine wp_ret ?_
              exact h.result24 Try.results18 rfl rfl ⟨rfl, h.below⟩
end Go.Proofs.Ytnbdeajjfhlmnaa
