/-
  Package field: Canon, Same, Sub, Add, Mul, Pow, Inv, Of.
-/
import Derived.Test.YtnbdeajjfhlmnaaSlices
import Derived.Test.YtnbdeajjfhlmnaaFieldN
namespace Go.Proofs.Ytnbdeajjfhlmnaa
open Go.RowKit

theorem Exit.then_ret {K : Act → World → Prop} {Q : Exit → Act → World → Prop} {a : Act} {w : World} (h : Q .ret a w) : Exit.then K Q .ret a w := h
theorem Exit.block_ret {i : Nat} {Q : Exit → Act → World → Prop} {a : Act} {w : World} (h : Q .ret a w) : Exit.inBlock i Q .ret a w := h
theorem fn44 : goFn Try.prog 44 = true := by kernel_rfl
theorem fn23 : goFn Try.prog 23 = true := by kernel_rfl
theorem fn47 : goFn Try.prog 47 = true := by kernel_rfl
theorem fn41 : goFn Try.prog 41 = true := by kernel_rfl
theorem fn28 : goFn Try.prog 28 = true := by kernel_rfl
theorem canon_any (n : Nat) (hn : n < 2 ^ 256) (w : World) : Calls Try.prog 23 #[bv n] w fun e w' => e = .returned (bv (n % pp)) ∧ Below w.heap.size w w' := by
  go_enter Try.func23, Try.ntmps23
  have h := Rep.start (N := 6) [bv n] [undef, undef, undef, undef, undef] w rfl
  apply seq_dag hmix h
  case hw =>
    apply Walk.cons
    · exact o_box24 1 rfl rfl rfl
    apply Walk.cons
    · exact o_alloc24 2 rfl rfl
    exact Walk.nil _
  case hck => kernel_rfl
  case hQ =>
    intro ρ A w1 h
    apply seq_dag hmix h
    case hw =>
      apply Walk.cons
      · exact o_load24 rfl rfl rfl rfl
      apply Walk.cons
      · exact ok_call_val rfl rfl fn42 [.v _] rfl (rd := []) (fun ρ w _ _ => load_any n hn w)
      apply Walk.cons
      · exact ok_call_val rfl rfl fn43 [.v _] rfl (rd := []) (fun ρ w _ _ => store_any _ (load_loose hn).w5 w)
      apply Walk.cons
      · exact o_store24 rfl rfl rfl rfl rfl
      exact Walk.nil _
    case hck => kernel_rfl
    case hQ =>
      intro ρ A w1 h
      refine wp_ret ?_
      exact h.result24 Try.results23 rfl rfl ⟨by rw [load_mod], h.below⟩
theorem same_any (n m : Nat) (hn : n < 2 ^ 256) (hm : m < 2 ^ 256) (w : World) : Calls Try.prog 27 #[bv n, bv m] w fun e w' => e = .returned (.bool (decide (n % pp = m % pp))) ∧ Below w.heap.size w w' := by
  go_enter Try.func27, Try.ntmps27
  have h := Rep.start (N := 10) [bv n, bv m] [undef, undef, undef, undef, undef, undef, undef, undef] w rfl
  apply seq_dag hmix h
  case hw =>
    apply Walk.cons
    · exact o_box24 2 rfl rfl rfl
    apply Walk.cons
    · exact o_box24 3 rfl rfl rfl
    apply Walk.cons
    · exact ok_assign rfl rfl rfl
    exact Walk.nil _
  case hck => kernel_rfl
  case hQ =>
    intro ρ A w1 h
    apply seq_dag hmix h
    case hw =>
      apply Walk.cons
      · exact o_load24 rfl rfl rfl rfl
      apply Walk.cons
      · exact ok_call_val rfl rfl fn23 [.v _] rfl (rd := []) (fun ρ w _ _ => canon_any n hn w)
      apply Walk.cons
      · exact o_load24 rfl rfl rfl rfl
      apply Walk.cons
      · exact ok_call_val rfl rfl fn23 [.v _] rfl (rd := []) (fun ρ w _ _ => canon_any m hm w)
      apply Walk.cons
      · exact o_eql24 rfl rfl rfl rfl (pp_lt n) (pp_lt m) rfl
      apply Walk.cons
      · exact ok_assign rfl rfl rfl
      exact Walk.nil _
    case hck => kernel_rfl
    case hQ =>
      intro ρ A w1 h
      refine wp_ret ?_
      exact h.result_tmp Try.results27 rfl ⟨rfl, h.below⟩
theorem sub25_any (n m : Nat) (hn : n < 2 ^ 256) (hm : m < 2 ^ 256) (w : World) : Calls Try.prog 25 #[bv n, bv m] w fun e w' => e = .returned (bv (subP n m)) ∧ Below w.heap.size w w' := by
  go_enter Try.func25, Try.ntmps25
  have h := Rep.start (N := 11) [bv n, bv m] [undef, undef, undef, undef, undef, undef, undef, undef, undef] w rfl
  apply seq_dag hmix h
  case hw =>
    apply Walk.cons
    · exact o_box24 2 rfl rfl rfl
    apply Walk.cons
    · exact o_box24 3 rfl rfl rfl
    apply Walk.cons
    · exact o_alloc24 4 rfl rfl
    exact Walk.nil _
  case hck => kernel_rfl
  case hQ =>
    intro ρ A w1 h
    apply seq_dag hmix h
    case hw =>
      apply Walk.cons
      · exact o_load24 rfl rfl rfl rfl
      apply Walk.cons
      · exact ok_call_val rfl rfl fn42 [.v _] rfl (rd := []) (fun ρ w _ _ => load_any n hn w)
      apply Walk.cons
      · exact o_load24 rfl rfl rfl rfl
      apply Walk.cons
      · exact ok_call_val rfl rfl fn42 [.v _] rfl (rd := []) (fun ρ w _ _ => load_any m hm w)
      apply Walk.cons
      · exact ok_call_val rfl rfl fn47 [.v _, .v _] rfl (rd := []) (fun ρ w _ _ => sub_any (loadL n) (loadL m) (load_loose hn) (load_loose hm).w5 w)
      apply Walk.cons
      · exact ok_call_val rfl rfl fn43 [.v _] rfl (rd := []) (fun ρ w _ _ => store_any _ (subL_loose (load_loose hn) (load_loose hm).w5).w5 w)
      apply Walk.cons
      · exact o_store24 rfl rfl rfl rfl rfl
      exact Walk.nil _
    case hck => kernel_rfl
    case hQ =>
      intro ρ A w1 h
      refine wp_ret ?_
      exact h.result24 Try.results25 rfl rfl ⟨by rw [sub_mod hm], h.below⟩
def add15S (v : Value) (l : List Nat) (k : Nat) : St := ⟨[(2, .p 2 0), (3, .p 3 0), (6, .v v), (7, .v (.int .i64 (l.length : Nat))), (8, .v (.int .i64 k))], [(2, ⟨bvc 0, 24⟩), (3, ⟨lvc (accT l k), 41⟩)]⟩
theorem add15_any (l : List Nat) (hl : ∀ j, l.getD j 0 < 2 ^ 256) (hlen : l.length < 9223372036854775807) (v : Value) (w : World) (hs : Sl w v l) :
    Calls Try.prog 15 #[v] w fun e w' => e = .returned (bv (sumT l l.length % pp)) ∧ Below w.heap.size w w' := by
  obtain ⟨ad, cap, rfl, hcap, hc⟩ := hs
  go_enter Try.func15, Try.ntmps15
  have h := Rep.start (N := 19) [.slice ad l.length cap] [undef, undef, undef, undef, undef, undef, undef, undef, undef, undef, undef, undef, undef, undef, undef, undef, undef, undef] w rfl
  apply seq_dag hmix h
  case hw =>
    apply Walk.cons
    · exact o_alloc24 2 rfl rfl
    exact Walk.nil _
  case hck => kernel_rfl
  case hQ =>
    intro ρ A w1 h
    apply seq_dag hmix h
    case hw =>
      apply Walk.cons
      · exact o_alloc41 3 rfl rfl
      exact Walk.nil _
    case hck => kernel_rfl
    case hQ =>
      intro ρ A w1 h
      refine wp_seq ?_
      apply seq_dag hmix h
      case hw =>
        apply Walk.cons
        · exact ok_move rfl rfl rfl
        apply Walk.cons
        · exact o_len22 rfl rfl rfl rfl
        apply Walk.cons
        · exact ok_move rfl rfl rfl
        exact Walk.nil _
      case hck => kernel_rfl
      case hQ =>
        intro ρ A w1 h
        have h := h.plain (add15S (.slice ad l.length cap) l 0) ⟨rfl, rfl, rfl, rfl, rfl, trivial⟩ ⟨rfl, rfl, trivial⟩ rfl
        refine wp_block ?_
        refine rep_loop l.length (add15S (.slice ad l.length cap) l) h ?_
        intro k ρ A w2 hk h
        by_cases hlt : k < l.length
        · obtain ⟨g, off, rfl, hcell⟩ := hc k hlt
          have hlk := hl k
          have hac := accT_loose hl k
          apply seq_dag hmix h
          case hw =>
            apply Walk.cons
            · exact o_bin rfl rfl rfl rfl (r_lss (a := k) (b := l.length) (decide_eq_true hlt))
            exact Walk.nil _
          case hck => kernel_rfl
          case hQ =>
            intro ρ A w1 h
            refine go_on h rfl ?_
            refine wp_seq (wp_block ?_)
            apply seq_dag hmix h
            case hw =>
              apply Walk.cons
              · exact o_at22 rfl rfl rfl rfl hlt
              apply Walk.cons
              · exact o_load24ro (n := l.getD k 0) rfl rfl rfl (fun h => h) hcell
              apply Walk.cons
              · exact o_alloc24 5 rfl rfl
              apply Walk.cons
              · exact o_store24 rfl rfl rfl rfl rfl
              exact Walk.nil _
            case hck => kernel_rfl
            case hQ =>
              intro ρ A w1 h
              apply region_dag hmix h
              case hw =>
                apply Walk.cons
                · exact o_load41 rfl rfl rfl rfl
                apply Walk.cons
                · exact o_load24 rfl rfl rfl rfl
                apply Walk.cons
                · exact ok_call_val rfl rfl fn42 [.v _] rfl (rd := []) (fun ρ w _ _ => load_any (l.getD k 0) hlk w)
                apply Walk.cons
                · exact ok_call_val rfl rfl fn41 [.v _, .v _] rfl (rd := []) (fun ρ w _ _ => add_any (accT l k) (loadL (l.getD k 0)) hac (load_loose hlk) w)
                apply Walk.cons
                · exact o_store41 rfl rfl rfl rfl rfl
                exact Walk.nil _
              case hck => kernel_rfl
              case hQ =>
                intro ρ A w1 h
                refine Exit.block_normal (Exit.then_normal ?_)
                apply region_dag hmix h
                case hw =>
                  apply Walk.cons
                  · exact o_bin rfl rfl rfl rfl (r_addi (a := k) (b := 1) (by omega))
                  apply Walk.cons
                  · exact ok_move rfl rfl rfl
                  exact Walk.nil _
                case hck => kernel_rfl
                case hQ =>
                  intro ρ A w1 h
                  exact ⟨_, hlt, h.plain (add15S (.slice (some ⟨g, off, none⟩) l.length cap) l (k + 1)) ⟨rfl, rfl, rfl, rfl, rfl, trivial⟩ ⟨rfl, rfl, trivial⟩ rfl⟩
        · obtain rfl : k = l.length := by omega
          apply seq_dag hmix h
          case hw =>
            apply Walk.cons
            · exact o_bin rfl rfl rfl rfl (r_lss (a := l.length) (b := l.length) (decide_eq_false hlt))
            exact Walk.nil _
          case hck => kernel_rfl
          case hQ =>
            intro ρ A w1 h
            refine leave h rfl ?_
            refine Exit.then_normal ?_
            apply seq_dag hmix h
            case hw =>
              apply Walk.cons
              · exact o_load41 rfl rfl rfl rfl
              apply Walk.cons
              · exact ok_call_val rfl rfl fn43 [.v _] rfl (rd := []) (fun ρ w _ _ => store_any _ (accT_loose hl _).w5 w)
              apply Walk.cons
              · exact o_store24 rfl rfl rfl rfl rfl
              exact Walk.nil _
            case hck => kernel_rfl
            case hQ =>
              intro ρ A w1 h
              refine wp_ret ?_
              exact h.result24 Try.results15 rfl rfl ⟨by rw [accT_mod l], h.below⟩
def mulS16 (v : Value) (l : List Nat) (k : Nat) : St := ⟨[(2, .p 2 0), (3, .p 3 0), (15, .v v), (16, .v (.int .i64 ((l.length - 1 : Nat) : Int))), (17, .v (.int .i64 k))], [(2, ⟨bvc 0, 24⟩), (3, ⟨lvc (mulT l k), 41⟩)]⟩
theorem one_lit (w : World) : (Instr.build 24 #[(0, .int .u8 1)]).run Try.prog w = .ok (bv 1) w := by kernel_rfl
theorem mul16_any (l : List Nat) (hl : ∀ j, l.getD j 0 < 2 ^ 256) (hlen : l.length < 9223372036854775807) (v : Value) (w : World) (hs : Sl w v l) :
    Calls Try.prog 16 #[v] w fun e w' => e = .returned (bv (prodT l l.length % pp)) ∧ Below w.heap.size w w' := by
  obtain ⟨ad, cap, rfl, hcap, hc⟩ := hs
  by_cases hz : l.length = 0
  · obtain rfl : l = [] := List.eq_nil_of_length_eq_zero hz
    go_enter Try.func16, Try.ntmps16
    have h := Rep.start (N := 28) [.slice ad ([] : List Nat).length cap] [undef, undef, undef, undef, undef, undef, undef, undef, undef, undef, undef, undef, undef, undef, undef, undef, undef, undef, undef, undef, undef, undef, undef, undef, undef, undef, undef] w rfl
    apply seq_dag hmix h
    case hw =>
      apply Walk.cons
      · exact o_alloc24 2 rfl rfl
      exact Walk.nil _
    case hck => kernel_rfl
    case hQ =>
      intro ρ A w1 h
      refine wp_seq ?_
      apply seq_dag hmix h
      case hw =>
        apply Walk.cons
        · exact ok_move rfl rfl rfl
        apply Walk.cons
        · exact o_len22 rfl rfl rfl rfl
        apply Walk.cons
        · exact o_bin rfl rfl rfl rfl (r_eqli (a := 0) (b := 0) (c := true) rfl)
        exact Walk.nil _
      case hck => kernel_rfl
      case hQ =>
        intro ρ A w1 h
        refine if_true' h rfl ?_
        apply seq_dag hmix h
        case hw =>
          apply Walk.cons
          · exact o_built rfl rfl (by kernel_rfl) (v := bv 1) (fun w => by kernel_rfl)
          apply Walk.cons
          · exact o_store24 rfl rfl rfl rfl rfl
          exact Walk.nil _
        case hck => kernel_rfl
        case hQ =>
          intro ρ A w1 h
          refine wp_ret (Exit.then_ret ?_)
          exact h.result24 (n := 1) Try.results16 rfl rfl ⟨by rw [show prodT [] 0 % pp = 1 from by decide +kernel], h.below⟩
  · have h1 : 0 < l.length := by omega
    obtain ⟨g, off, rfl, hc0⟩ := hc 0 h1
    have hl0 := hl 0
    go_enter Try.func16, Try.ntmps16
    have h := Rep.start (N := 28) [.slice (some ⟨g, off, none⟩) l.length cap] [undef, undef, undef, undef, undef, undef, undef, undef, undef, undef, undef, undef, undef, undef, undef, undef, undef, undef, undef, undef, undef, undef, undef, undef, undef, undef, undef] w rfl
    apply seq_dag hmix h
    case hw =>
      apply Walk.cons
      · exact o_alloc24 2 rfl rfl
      exact Walk.nil _
    case hck => kernel_rfl
    case hQ =>
      intro ρ A w1 h
      refine wp_seq ?_
      apply seq_dag hmix h
      case hw =>
        apply Walk.cons
        · exact ok_move rfl rfl rfl
        apply Walk.cons
        · exact o_len22 rfl rfl rfl rfl
        apply Walk.cons
        · exact o_bin rfl rfl rfl rfl (r_eqli (a := l.length) (b := 0) (c := false) (decide_eq_false hz))
        exact Walk.nil _
      case hck => kernel_rfl
      case hQ =>
        intro ρ A w1 h
        refine if_false' h rfl (wp_skip ?_)
        refine Exit.then_normal ?_
        apply seq_dag hmix h
        case hw =>
          apply Walk.cons
          · exact ok_move rfl rfl rfl
          apply Walk.cons
          · exact o_at22 (j := 0) rfl rfl rfl rfl h1
          apply Walk.cons
          · exact o_load24ro (n := l.getD 0 0) rfl rfl rfl (fun h => h) hc0
          apply Walk.cons
          · exact ok_call_val rfl rfl fn42 [.v _] rfl (rd := []) (fun ρ w _ _ => load_any (l.getD 0 0) hl0 w)
          apply Walk.cons
          · exact o_alloc41 3 rfl rfl
          apply Walk.cons
          · exact o_store41 rfl rfl rfl rfl rfl
          exact Walk.nil _
        case hck => kernel_rfl
        case hQ =>
          intro ρ A w1 h
          refine wp_seq ?_
          apply seq_dag hmix h
          case hw =>
            apply Walk.cons
            · exact ok_move rfl rfl rfl
            apply Walk.cons
            · exact o_tail22 rfl rfl rfl h1
            apply Walk.cons
            · exact o_len22 rfl rfl rfl rfl
            apply Walk.cons
            · exact ok_move rfl rfl rfl
            exact Walk.nil _
          case hck => kernel_rfl
          case hQ =>
            intro ρ A w1 h
            generalize hv : Value.slice (some (if cap = 1 then (⟨g, off, none⟩ : Addr) else ⟨g, off + 32, none⟩)) (l.length - 1) (cap - 1) = v at h
            have h := h.plain (mulS16 v l 0) ⟨rfl, rfl, rfl, rfl, rfl, trivial⟩ ⟨rfl, rfl, trivial⟩ rfl
            refine wp_block ?_
            refine rep_loop (l.length - 1) (mulS16 v l) h ?_
            intro k ρ A w2 hk h
            by_cases hlt : k < l.length - 1
            · obtain ⟨g', off', hg', hcell⟩ := hc (k + 1) (by omega)
              cases hg'
              have hc1 : cap ≠ 1 := by omega
              simp only [if_neg hc1] at hv
              subst hv
              have hcell : ∀ j, j < 32 → w.cell? ⟨g, off + 32 + k * 32 + j, none⟩ = some (byteV (l.getD (k + 1) 0) j) := fun j hj => by
                rw [← hcell j hj]; congr 2; omega
              have hlk := hl (k + 1)
              have hac := mulT_loose hl k
              apply seq_dag hmix h
              case hw =>
                apply Walk.cons
                · exact o_bin rfl rfl rfl rfl (r_lss (a := k) (b := l.length - 1) (decide_eq_true hlt))
                exact Walk.nil _
              case hck => kernel_rfl
              case hQ =>
                intro ρ A w1 h
                refine go_on h rfl ?_
                refine wp_seq (wp_block ?_)
                apply seq_dag hmix h
                case hw =>
                  apply Walk.cons
                  · exact o_at22 rfl rfl rfl rfl hlt
                  apply Walk.cons
                  · exact o_load24ro (n := l.getD (k + 1) 0) rfl rfl rfl (fun h => h) hcell
                  apply Walk.cons
                  · exact o_alloc24 5 rfl rfl
                  apply Walk.cons
                  · exact o_store24 rfl rfl rfl rfl rfl
                  exact Walk.nil _
                case hck => kernel_rfl
                case hQ =>
                  intro ρ A w1 h
                  apply region_dag hmix h
                  case hw =>
                    apply Walk.cons
                    · exact o_load41 rfl rfl rfl rfl
                    apply Walk.cons
                    · exact o_load24 rfl rfl rfl rfl
                    apply Walk.cons
                    · exact ok_call_val rfl rfl fn42 [.v _] rfl (rd := []) (fun ρ w _ _ => load_any (l.getD (k + 1) 0) hlk w)
                    apply Walk.cons
                    · exact ok_call_val rfl rfl fn44 [.v _, .v _] rfl (rd := []) (fun ρ w _ _ => mul_any (mulT l k) (loadL (l.getD (k + 1) 0)) hac (load_loose hlk) w)
                    apply Walk.cons
                    · exact o_store41 rfl rfl rfl rfl rfl
                    exact Walk.nil _
                  case hck => kernel_rfl
                  case hQ =>
                    intro ρ A w1 h
                    refine Exit.block_normal (Exit.then_normal ?_)
                    apply region_dag hmix h
                    case hw =>
                      apply Walk.cons
                      · exact o_bin rfl rfl rfl rfl (r_addi (a := k) (b := 1) (by omega))
                      apply Walk.cons
                      · exact ok_move rfl rfl rfl
                      exact Walk.nil _
                    case hck => kernel_rfl
                    case hQ =>
                      intro ρ A w1 h
                      exact ⟨_, hlt, h.plain (mulS16 _ l (k + 1)) ⟨rfl, rfl, rfl, rfl, rfl, trivial⟩ ⟨rfl, rfl, trivial⟩ rfl⟩
            · obtain rfl : k = l.length - 1 := by omega
              apply seq_dag hmix h
              case hw =>
                apply Walk.cons
                · exact o_bin rfl rfl rfl rfl (r_lss (a := l.length - 1) (b := l.length - 1) (decide_eq_false hlt))
                exact Walk.nil _
              case hck => kernel_rfl
              case hQ =>
                intro ρ A w1 h
                refine leave h rfl ?_
                refine Exit.then_normal ?_
                apply seq_dag hmix h
                case hw =>
                  apply Walk.cons
                  · exact o_load41 rfl rfl rfl rfl
                  apply Walk.cons
                  · exact ok_call_val rfl rfl fn43 [.v _] rfl (rd := []) (fun ρ w _ _ => store_any _ (mulT_loose hl _).w5 w)
                  apply Walk.cons
                  · exact o_store24 rfl rfl rfl rfl rfl
                  exact Walk.nil _
                case hck => kernel_rfl
                case hQ =>
                  intro ρ A w1 h
                  refine wp_ret ?_
                  exact h.result24 Try.results16 rfl rfl ⟨by rw [mulT_mod hl, Nat.sub_add_cancel h1], h.below⟩

/-! ### powers -/
def powS (n m k : Nat) : St := ⟨[(3, .p 3 0), (4, .p 4 0), (5, .p 5 0), (6, .p 6 0), (11, .v (.int .i64 k))], [(3, ⟨bvc m, 24⟩), (4, ⟨bvc 0, 24⟩), (5, ⟨lvc (sqT n k), 41⟩), (6, ⟨lvc (powT n m k), 41⟩)]⟩
theorem r_lssI {P : Program} {t : TypeId} {k : IntKind} {a b : Int} {c : Bool} (h : decide (a < b) = c) (w : World) : (binOp .lss t (.int k a) (.int k b)).run P w = .ok (.bool c) w := by
  subst h; simp [binOp, Op.intCmp]

theorem pow_any (n m : Nat) (hn : n < 2 ^ 256) (hm : m < 2 ^ 256) (w : World) : Calls Try.prog 28 #[bv n, bv m] w fun e w' => e = .returned (bv (powP n m)) ∧ Below w.heap.size w w' := by
  go_enter Try.func28, Try.ntmps28
  have h := Rep.start (N := 32) [bv n, bv m] [undef, undef, undef, undef, undef, undef, undef, undef, undef, undef, undef, undef, undef, undef, undef, undef, undef, undef, undef, undef, undef, undef, undef, undef, undef, undef, undef, undef, undef, undef] w rfl
  apply seq_dag hmix h
  case hw =>
    apply Walk.cons
    · exact o_box24 2 rfl rfl rfl
    apply Walk.cons
    · exact o_box24 3 rfl rfl rfl
    apply Walk.cons
    · exact o_alloc24 4 rfl rfl
    exact Walk.nil _
  case hck => kernel_rfl
  case hQ =>
    intro ρ A w1 h
    apply seq_dag hmix h
    case hw =>
      apply Walk.cons
      · exact o_load24 rfl rfl rfl rfl
      apply Walk.cons
      · exact ok_call_val rfl rfl fn42 [.v _] rfl (rd := []) (fun ρ w _ _ => load_any n hn w)
      apply Walk.cons
      · exact o_built rfl rfl (by kernel_rfl) (v := lv ⟨1, 0, 0, 0, 0⟩) (fun w => by kernel_rfl)
      apply Walk.cons
      · exact o_alloc41 5 rfl rfl
      apply Walk.cons
      · exact o_alloc41 6 rfl rfl
      apply Walk.cons
      · exact o_store41 rfl rfl rfl rfl rfl
      apply Walk.cons
      · exact o_store41 rfl rfl rfl rfl rfl
      exact Walk.nil _
    case hck => kernel_rfl
    case hQ =>
      intro ρ A w1 h
      refine wp_seq ?_
      apply seq_dag hmix h
      case hw =>
        apply Walk.cons
        · exact ok_move rfl rfl rfl
        exact Walk.nil _
      case hck => kernel_rfl
      case hQ =>
        intro ρ A w1 h
        have h := h.plain (powS n m 0) ⟨rfl, rfl, rfl, rfl, rfl, trivial⟩ ⟨rfl, rfl, rfl, rfl, trivial⟩ rfl
        refine wp_block ?_
        refine rep_loop 256 (powS n m) h ?_
        intro k ρ A w2 hk h
        have hsq := sqT_loose hn k
        have hpw := powT_loose hn m k
        by_cases hlt : k < 256
        · have hb := byteOf_lt m (k / 8)
          have hb2 : byteOf m (k / 8) / 2 ^ (k % 8) < 256 := Nat.lt_of_le_of_lt (Nat.div_le_self _ _) hb
          apply seq_dag hmix h
          case hw =>
            apply Walk.cons
            · exact o_bin rfl rfl rfl rfl (r_lss (a := k) (b := 256) (decide_eq_true hlt))
            exact Walk.nil _
          case hck => kernel_rfl
          case hQ =>
            intro ρ A w1 h
            refine go_on h rfl ?_
            refine wp_seq (wp_block ?_)
            apply seq_dag hmix h
            case hw =>
              apply Walk.cons
              · exact ok_move rfl rfl rfl
              apply Walk.cons
              · exact ok_assign rfl rfl rfl
              exact Walk.nil _
            case hck => kernel_rfl
            case hQ =>
              intro ρ A w1 h
              by_cases hbit : bitN m k = 1
              · refine wp_seq (wp_seq ?_)
                apply region_dag hmix h
                case hw =>
                  apply Walk.cons
                  · exact ok_move rfl rfl rfl
                  apply Walk.cons
                  · exact o_bin rfl rfl rfl rfl (r_quoi (a := k) (b := 8) (by decide) (by omega))
                  apply Walk.cons
                  · exact o_at24 rfl rfl rfl rfl (j := k / 8) (by omega)
                  apply Walk.cons
                  · exact o_load5 rfl rfl rfl rfl (k := k / 8) (by omega)
                  apply Walk.cons
                  · exact ok_move rfl rfl rfl
                  apply Walk.cons
                  · exact o_bin rfl rfl rfl rfl (r_remi (a := k) (b := 8) (by decide))
                  apply Walk.cons
                  · exact o_bin rfl rfl rfl rfl (r_shr8 (byteOf m (k / 8)) (k % 8) .i64 (by omega))
                  apply Walk.cons
                  · exact o_bin rfl rfl rfl rfl (r_and (u8_and_one (byteOf m (k / 8) / 2 ^ (k % 8)) hb2))
                  apply Walk.cons
                  · exact o_bin rfl rfl rfl rfl (r_eqli (a := bitN m k) (b := 1) (decide_eq_true hbit))
                  exact Walk.nil _
                case hck => kernel_rfl
                case hQ =>
                  intro ρ A w1 h
                  refine if_true' h rfl ?_
                  apply region_dag hmix h
                  case hw =>
                    apply Walk.cons
                    · exact o_load41 rfl rfl rfl rfl
                    apply Walk.cons
                    · exact o_load41 rfl rfl rfl rfl
                    apply Walk.cons
                    · exact ok_call_val rfl rfl fn44 [.v _, .v _] rfl (rd := []) (fun ρ w _ _ => mul_any (powT n m k) (sqT n k) hpw hsq w)
                    apply Walk.cons
                    · exact o_store41 rfl rfl rfl rfl rfl
                    exact Walk.nil _
                  case hck => kernel_rfl
                  case hQ =>
                    intro ρ A w1 h
                    refine Exit.then_normal ?_
                    apply region_dag hmix h
                    case hw =>
                      apply Walk.cons
                      · exact o_load41 rfl rfl rfl rfl
                      apply Walk.cons
                      · exact o_load41 rfl rfl rfl rfl
                      apply Walk.cons
                      · exact ok_call_val rfl rfl fn44 [.v _, .v _] rfl (rd := []) (fun ρ w _ _ => mul_any (sqT n k) (sqT n k) hsq hsq w)
                      apply Walk.cons
                      · exact o_store41 rfl rfl rfl rfl rfl
                      exact Walk.nil _
                    case hck => kernel_rfl
                    case hQ =>
                      intro ρ A w1 h
                      refine Exit.block_normal (Exit.then_normal ?_)
                      apply region_dag hmix h
                      case hw =>
                        apply Walk.cons
                        · exact o_bin rfl rfl rfl rfl (r_addi (a := k) (b := 1) (by omega))
                        apply Walk.cons
                        · exact ok_move rfl rfl rfl
                        exact Walk.nil _
                      case hck => kernel_rfl
                      case hQ =>
                        intro ρ A w1 h
                        exact ⟨_, hlt, h.plain (powS n m (k + 1)) ⟨rfl, rfl, rfl, rfl, rfl, trivial⟩ ⟨rfl, rfl, rfl, by rw [powT_one hbit]; rfl, trivial⟩ rfl⟩
              · refine wp_seq (wp_seq ?_)
                apply region_dag hmix h
                case hw =>
                  apply Walk.cons
                  · exact ok_move rfl rfl rfl
                  apply Walk.cons
                  · exact o_bin rfl rfl rfl rfl (r_quoi (a := k) (b := 8) (by decide) (by omega))
                  apply Walk.cons
                  · exact o_at24 rfl rfl rfl rfl (j := k / 8) (by omega)
                  apply Walk.cons
                  · exact o_load5 rfl rfl rfl rfl (k := k / 8) (by omega)
                  apply Walk.cons
                  · exact ok_move rfl rfl rfl
                  apply Walk.cons
                  · exact o_bin rfl rfl rfl rfl (r_remi (a := k) (b := 8) (by decide))
                  apply Walk.cons
                  · exact o_bin rfl rfl rfl rfl (r_shr8 (byteOf m (k / 8)) (k % 8) .i64 (by omega))
                  apply Walk.cons
                  · exact o_bin rfl rfl rfl rfl (r_and (u8_and_one (byteOf m (k / 8) / 2 ^ (k % 8)) hb2))
                  apply Walk.cons
                  · exact o_bin rfl rfl rfl rfl (r_eqli (a := bitN m k) (b := 1) (decide_eq_false hbit))
                  exact Walk.nil _
                case hck => kernel_rfl
                case hQ =>
                  intro ρ A w1 h
                  refine if_false' h rfl (wp_skip ?_)
                  refine Exit.then_normal ?_
                  apply region_dag hmix h
                  case hw =>
                    apply Walk.cons
                    · exact o_load41 rfl rfl rfl rfl
                    apply Walk.cons
                    · exact o_load41 rfl rfl rfl rfl
                    apply Walk.cons
                    · exact ok_call_val rfl rfl fn44 [.v _, .v _] rfl (rd := []) (fun ρ w _ _ => mul_any (sqT n k) (sqT n k) hsq hsq w)
                    apply Walk.cons
                    · exact o_store41 rfl rfl rfl rfl rfl
                    exact Walk.nil _
                  case hck => kernel_rfl
                  case hQ =>
                    intro ρ A w1 h
                    refine Exit.block_normal (Exit.then_normal ?_)
                    apply region_dag hmix h
                    case hw =>
                      apply Walk.cons
                      · exact o_bin rfl rfl rfl rfl (r_addi (a := k) (b := 1) (by omega))
                      apply Walk.cons
                      · exact ok_move rfl rfl rfl
                      exact Walk.nil _
                    case hck => kernel_rfl
                    case hQ =>
                      intro ρ A w1 h
                      exact ⟨_, hlt, h.plain (powS n m (k + 1)) ⟨rfl, rfl, rfl, rfl, rfl, trivial⟩ ⟨rfl, rfl, rfl, by rw [powT_zero hbit]; rfl, trivial⟩ rfl⟩
        · obtain rfl : k = 256 := by omega
          apply seq_dag hmix h
          case hw =>
            apply Walk.cons
            · exact o_bin rfl rfl rfl rfl (r_lss (a := 256) (b := 256) (decide_eq_false hlt))
            exact Walk.nil _
          case hck => kernel_rfl
          case hQ =>
            intro ρ A w1 h
            refine leave h rfl ?_
            refine Exit.then_normal ?_
            apply seq_dag hmix h
            case hw =>
              apply Walk.cons
              · exact o_load41 rfl rfl rfl rfl
              apply Walk.cons
              · exact ok_call_val rfl rfl fn43 [.v _] rfl (rd := []) (fun ρ w _ _ => store_any _ hpw.w5 w)
              apply Walk.cons
              · exact o_store24 rfl rfl rfl rfl rfl
              exact Walk.nil _
            case hck => kernel_rfl
            case hQ =>
              intro ρ A w1 h
              refine wp_ret ?_
              exact h.result24 Try.results28 rfl rfl ⟨by rw [powT_all hn hm], h.below⟩

/-! ### the inverse -/
def invS (n k : Nat) : St := ⟨[(1, .p 1 0), (2, .p 2 0), (3, .p 3 0), (4, .v (.int .i64 ((k + 1 : Nat) : Int)))], [(1, ⟨bvc n, 24⟩), (2, ⟨bvc 0, 24⟩), (3, ⟨bvc (invE k), 24⟩)]⟩
theorem inv_any (n : Nat) (hn : n < 2 ^ 256) (w : World) : Calls Try.prog 30 #[bv n] w fun e w' => e = .returned (bv (powP n (pp - 2))) ∧ Below w.heap.size w w' := by
  go_enter Try.func30, Try.ntmps30
  have h := Rep.start (N := 15) [bv n] [undef, undef, undef, undef, undef, undef, undef, undef, undef, undef, undef, undef, undef, undef] w rfl
  apply seq_dag hmix h
  case hw =>
    apply Walk.cons
    · exact o_box24 1 rfl rfl rfl
    apply Walk.cons
    · exact o_alloc24 2 rfl rfl
    exact Walk.nil _
  case hck => kernel_rfl
  case hQ =>
    intro ρ A w1 h
    apply seq_dag hmix h
    case hw =>
      apply Walk.cons
      · exact o_built rfl rfl (by kernel_rfl) (v := bv (invE 0)) (fun w => by kernel_rfl)
      apply Walk.cons
      · exact o_alloc24 3 rfl rfl
      apply Walk.cons
      · exact o_store24 rfl rfl rfl rfl rfl
      exact Walk.nil _
    case hck => kernel_rfl
    case hQ =>
      intro ρ A w1 h
      refine wp_seq ?_
      apply seq_dag hmix h
      case hw =>
        apply Walk.cons
        · exact ok_assign rfl rfl rfl
        exact Walk.nil _
      case hck => kernel_rfl
      case hQ =>
        intro ρ A w1 h
        have h := h.plain (invS n 0) ⟨rfl, rfl, rfl, rfl, trivial⟩ ⟨rfl, rfl, rfl, trivial⟩ rfl
        refine wp_block ?_
        refine rep_loop 30 (invS n) h ?_
        intro k ρ A w2 hk h
        by_cases hlt : k < 30
        · refine wp_seq ?_
          apply seq_dag hmix h
          case hw =>
            apply Walk.cons
            · exact ok_move rfl rfl rfl
            apply Walk.cons
            · exact o_bin rfl rfl rfl rfl (r_lss (a := k + 1) (b := 31) (decide_eq_true (by omega)))
            exact Walk.nil _
          case hck => kernel_rfl
          case hQ =>
            intro ρ A w1 h
            refine if_true' h rfl (wp_skip ?_)
            refine Exit.then_normal ?_
            refine wp_seq (wp_block ?_)
            apply region_dag hmix h
            case hw =>
              apply Walk.cons
              · exact ok_move rfl rfl rfl
              apply Walk.cons
              · exact o_at24 rfl rfl rfl rfl (j := k + 1) (by omega)
              apply Walk.cons
              · exact o_store5 rfl rfl rfl rfl rfl (k := k + 1) (b := 255) (by omega) (by decide)
              exact Walk.nil _
            case hck => kernel_rfl
            case hQ =>
              intro ρ A w1 h
              refine Exit.block_normal (Exit.then_normal ?_)
              apply region_dag hmix h
              case hw =>
                apply Walk.cons
                · exact ok_move rfl rfl rfl
                apply Walk.cons
                · exact o_bin rfl rfl rfl rfl (r_addi (a := k + 1) (b := 1) (by omega))
                apply Walk.cons
                · exact ok_assign rfl rfl rfl
                exact Walk.nil _
              case hck => kernel_rfl
              case hQ =>
                intro ρ A w1 h
                exact ⟨_, hlt, h.plain (invS n (k + 1)) ⟨rfl, rfl, rfl, rfl, trivial⟩ ⟨rfl, rfl, rfl, trivial⟩ rfl⟩
        · obtain rfl : k = 30 := by omega
          refine wp_seq ?_
          apply seq_dag hmix h
          case hw =>
            apply Walk.cons
            · exact ok_move rfl rfl rfl
            apply Walk.cons
            · exact o_bin rfl rfl rfl rfl (r_lss (a := 30 + 1) (b := 31) (decide_eq_false (by omega)))
            exact Walk.nil _
          case hck => kernel_rfl
          case hQ =>
            intro ρ A w1 h
            refine if_false' h rfl (wp_exit (at_exit' ?_))
            refine Exit.then_normal ?_
            apply seq_dag hmix h
            case hw =>
              apply Walk.cons
              · exact o_load24 rfl rfl rfl rfl
              apply Walk.cons
              · exact o_load24 rfl rfl rfl rfl
              apply Walk.cons
              · exact ok_call_val rfl rfl fn28 [.v _, .v _] rfl (rd := []) (fun ρ w _ _ => pow_any n (invE 30) hn invE_lt w)
              apply Walk.cons
              · exact o_store24 rfl rfl rfl rfl rfl
              exact Walk.nil _
            case hck => kernel_rfl
            case hQ =>
              intro ρ A w1 h
              refine wp_ret ?_
              exact h.result24 Try.results30 rfl rfl ⟨by rw [invE_all], h.below⟩

/-! ### whole numbers -/
theorem o_neg64 {F : Fr} {ops : Array Oper} {S : St} {o : Oper} (hw : want ops S o = some true) {x : Operand} {t : TypeId} (ho : o.op = .unOp .neg t x) {a : Int} {c : Nat} (hx : S.av x = some (.v (.int .u64 a))) (hc : IntKind.u64.wrap (-a) = (c : Int)) :
    OpOK Try.prog F ops o S { val := .v (.int .u64 c) } :=
  ok_value hw fun ρ a' w h1 _ _ => by
    have e1 := h1 x (by simp [ho, Op.operands]) _ hx
    have e2 : (Op.intArith .sub .u64 0 a).run Try.prog w = .ok (.int .u64 c) w := by rw [← hc, ← Int.zero_sub]; rfl
    simp [execOp, ho, e1, Op.unary, e2]
theorem of_any (a : Int) (h0 : -9223372036854775808 ≤ a) (h1 : a < 9223372036854775808) (w : World) : Calls Try.prog 21 #[.int .i64 a] w fun e w' => e = .returned (bv (ofP a)) ∧ Below w.heap.size w w' := by
  by_cases hneg : a < 0
  · have hc : IntKind.u64.wrap a = ((18446744073709551616 - a.natAbs : Nat) : Int) := by rw [IntKind.wrap_u64]; omega
    have hc2 : IntKind.u64.wrap (-((18446744073709551616 - a.natAbs : Nat) : Int)) = ((a.natAbs : Nat) : Int) := by rw [IntKind.wrap_u64]; omega
    have hu : a.natAbs ≤ 9223372036854775808 := by omega
    go_enter Try.func21, Try.ntmps21
    have h := Rep.start (N := 23) [.int .i64 a] [undef, undef, undef, undef, undef, undef, undef, undef, undef, undef, undef, undef, undef, undef, undef, undef, undef, undef, undef, undef, undef, undef] w rfl
    apply seq_dag hmix h
    case hw =>
      apply Walk.cons
      · exact o_alloc24 2 rfl rfl
      exact Walk.nil _
    case hck => kernel_rfl
    case hQ =>
      intro ρ A w1 h
      apply seq_dag hmix h
      case hw =>
        apply Walk.cons
        · exact ok_move rfl rfl rfl
        apply Walk.cons
        · exact o_conv rfl rfl rfl (by kernel_rfl) (by kernel_rfl) hc
        apply Walk.cons
        · exact ok_assign rfl rfl rfl
        exact Walk.nil _
      case hck => kernel_rfl
      case hQ =>
        intro ρ A w1 h
        refine wp_seq ?_
        apply seq_dag hmix h
        case hw =>
          apply Walk.cons
          · exact ok_move rfl rfl rfl
          apply Walk.cons
          · exact o_bin rfl rfl rfl rfl (r_lssI (b := 0) (decide_eq_true hneg))
          exact Walk.nil _
        case hck => kernel_rfl
        case hQ =>
          intro ρ A w1 h
          refine if_true' h rfl ?_
          apply region_dag hmix h
          case hw =>
            apply Walk.cons
            · exact ok_move rfl rfl rfl
            apply Walk.cons
            · exact o_neg64 rfl rfl rfl hc2
            apply Walk.cons
            · exact ok_assign rfl rfl rfl
            exact Walk.nil _
          case hck => kernel_rfl
          case hQ =>
            intro ρ A w1 h
            refine Exit.then_normal ?_
            apply seq_dag hmix h
            case hw =>
              apply Walk.cons
              · exact ok_move rfl rfl rfl
              apply Walk.cons
              · exact o_bin rfl rfl rfl rfl (r_and (u64_and51 a.natAbs (by omega)))
              apply Walk.cons
              · exact ok_move rfl rfl rfl
              apply Walk.cons
              · exact o_bin rfl rfl rfl rfl (r_shr64 a.natAbs 51 .u64 (by decide))
              apply Walk.cons
              · exact o_built rfl rfl (by kernel_rfl) (v := lv (ofL a.natAbs)) (fun w => by kernel_rfl)
              apply Walk.cons
              · exact o_alloc41 4 rfl rfl
              apply Walk.cons
              · exact o_store41 rfl rfl rfl rfl rfl
              exact Walk.nil _
            case hck => kernel_rfl
            case hQ =>
              intro ρ A w1 h
              refine wp_seq ?_
              apply seq_dag hmix h
              case hw =>
                apply Walk.cons
                · exact ok_move rfl rfl rfl
                apply Walk.cons
                · exact o_bin rfl rfl rfl rfl (r_lssI (b := 0) (decide_eq_true hneg))
                exact Walk.nil _
              case hck => kernel_rfl
              case hQ =>
                intro ρ A w1 h
                refine if_true' h rfl ?_
                apply region_dag hmix h
                case hw =>
                  apply Walk.cons
                  · exact o_built rfl rfl (by kernel_rfl) (v := lv ⟨0, 0, 0, 0, 0⟩) (fun w => by kernel_rfl)
                  apply Walk.cons
                  · exact o_load41 rfl rfl rfl rfl
                  apply Walk.cons
                  · exact ok_call_val rfl rfl fn47 [.v _, .v _] rfl (rd := []) (fun ρ w _ _ => sub_any ⟨0, 0, 0, 0, 0⟩ (ofL a.natAbs) zero_loose (ofL_w5 hu) w)
                  apply Walk.cons
                  · exact o_store41 rfl rfl rfl rfl rfl
                  exact Walk.nil _
                case hck => kernel_rfl
                case hQ =>
                  intro ρ A w1 h
                  refine Exit.then_normal ?_
                  apply seq_dag hmix h
                  case hw =>
                    apply Walk.cons
                    · exact o_load41 rfl rfl rfl rfl
                    apply Walk.cons
                    · exact ok_call_val rfl rfl fn43 [.v _] rfl (rd := []) (fun ρ w _ _ => store_any _ (subL_loose zero_loose (ofL_w5 hu)).w5 w)
                    apply Walk.cons
                    · exact o_store24 rfl rfl rfl rfl rfl
                    exact Walk.nil _
                  case hck => kernel_rfl
                  case hQ =>
                    intro ρ A w1 h
                    refine wp_ret ?_
                    exact h.result24 Try.results21 rfl rfl ⟨by rw [of_neg hneg hu], h.below⟩
  · have hc : IntKind.u64.wrap a = ((a.natAbs : Nat) : Int) := by rw [IntKind.wrap_u64]; omega
    have hu : a.natAbs ≤ 9223372036854775808 := by omega
    go_enter Try.func21, Try.ntmps21
    have h := Rep.start (N := 23) [.int .i64 a] [undef, undef, undef, undef, undef, undef, undef, undef, undef, undef, undef, undef, undef, undef, undef, undef, undef, undef, undef, undef, undef, undef] w rfl
    apply seq_dag hmix h
    case hw =>
      apply Walk.cons
      · exact o_alloc24 2 rfl rfl
      exact Walk.nil _
    case hck => kernel_rfl
    case hQ =>
      intro ρ A w1 h
      apply seq_dag hmix h
      case hw =>
        apply Walk.cons
        · exact ok_move rfl rfl rfl
        apply Walk.cons
        · exact o_conv rfl rfl rfl (by kernel_rfl) (by kernel_rfl) hc
        apply Walk.cons
        · exact ok_assign rfl rfl rfl
        exact Walk.nil _
      case hck => kernel_rfl
      case hQ =>
        intro ρ A w1 h
        refine wp_seq ?_
        apply seq_dag hmix h
        case hw =>
          apply Walk.cons
          · exact ok_move rfl rfl rfl
          apply Walk.cons
          · exact o_bin rfl rfl rfl rfl (r_lssI (b := 0) (decide_eq_false hneg))
          exact Walk.nil _
        case hck => kernel_rfl
        case hQ =>
          intro ρ A w1 h
          refine if_false' h rfl (wp_skip ?_)
          refine Exit.then_normal ?_
          apply seq_dag hmix h
          case hw =>
            apply Walk.cons
            · exact ok_move rfl rfl rfl
            apply Walk.cons
            · exact o_bin rfl rfl rfl rfl (r_and (u64_and51 a.natAbs (by omega)))
            apply Walk.cons
            · exact ok_move rfl rfl rfl
            apply Walk.cons
            · exact o_bin rfl rfl rfl rfl (r_shr64 a.natAbs 51 .u64 (by decide))
            apply Walk.cons
            · exact o_built rfl rfl (by kernel_rfl) (v := lv (ofL a.natAbs)) (fun w => by kernel_rfl)
            apply Walk.cons
            · exact o_alloc41 4 rfl rfl
            apply Walk.cons
            · exact o_store41 rfl rfl rfl rfl rfl
            exact Walk.nil _
          case hck => kernel_rfl
          case hQ =>
            intro ρ A w1 h
            refine wp_seq ?_
            apply seq_dag hmix h
            case hw =>
              apply Walk.cons
              · exact ok_move rfl rfl rfl
              apply Walk.cons
              · exact o_bin rfl rfl rfl rfl (r_lssI (b := 0) (decide_eq_false hneg))
              exact Walk.nil _
            case hck => kernel_rfl
            case hQ =>
              intro ρ A w1 h
              refine if_false' h rfl (wp_skip ?_)
              refine Exit.then_normal ?_
              apply seq_dag hmix h
              case hw =>
                apply Walk.cons
                · exact o_load41 rfl rfl rfl rfl
                apply Walk.cons
                · exact ok_call_val rfl rfl fn43 [.v _] rfl (rd := []) (fun ρ w _ _ => store_any _ (ofL_w5 hu) w)
                apply Walk.cons
                · exact o_store24 rfl rfl rfl rfl rfl
                exact Walk.nil _
              case hck => kernel_rfl
              case hQ =>
                intro ρ A w1 h
                refine wp_ret ?_
                exact h.result24 Try.results21 rfl rfl ⟨by rw [of_pos hneg], h.below⟩
end Go.Proofs.Ytnbdeajjfhlmnaa
