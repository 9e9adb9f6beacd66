/-
  aditref01: Less, Load, carried, atLeast.
-/
import Derived.Test.YtnbdeajjfhlmnaaRefN
import Derived.Test.YtnbdeajjfhlmnaaAwake
namespace Go.Proofs.Ytnbdeajjfhlmnaa
open Go.RowKit

/-- A call that hands back a slice of numbers over a new block. -/
def NewS (w w' : World) (e : Ending) (f : Nat → Nat) (len cap : Nat) : Prop :=
  ∃ g, e = .returned (.slice (some ⟨g, 0, none⟩) len cap) ∧ w.heap.size ≤ g ∧ w'.heap[g]? = some (Blk.obj ⟨icv f cap, 3⟩) ∧ Below w.heap.size w w'
theorem Rep.result_s {P : Program} {N : Nat} {S : St} {ρ : Nat → Nat} {W : World} {a : Act} {w : World} (h : Rep N S ρ { W := W } a w) {fn : Func} {p : Tmp} {i len cap : Nat} {f : Nat → Nat}
    (hfn : fn.results = #[.tmp p]) (hs : S.slot p = some (.s i 0 len cap)) (hb : S.blk i = some ⟨icv f cap, 3⟩) {R : Ending → World → Prop} (hR : ∀ e, NewS W w e f len cap → R e w) : bodyPost P fn R .ret a w := by
  refine ⟨h.defers, .slice (some ⟨ρ i, 0, none⟩) len cap, ?_, hR _ ⟨ρ i, rfl, ?_, h.mem i _ hb, h.below⟩⟩
  · have hp := h.slots _ _ hs
    simp [results, hfn, hp, AV.s, AV.to]
  · rcases h.own i _ hb with h | h
    · exact h
    · exact False.elim h
section
variable {P : Program} {F : Fr} {ops : Array Oper} {S : St} {o : Oper}
theorem ok_call_new (i : Nat) (hw : want ops S o = some true) {f : FuncId} {args : Array Operand} {ts : Array TypeId} (ho : o.op = .call { callee := .value (.func f), args := args, argTypes := ts })
    (hf : goFn P f = true) (avs : List AV) (ha : args.toList.mapM S.av = some avs) {q : Nat → Nat} {len cap : Nat} {rd : List Nat}
    (hc : ∀ (ρ : Nat → Nat) (w : World), (∀ i ∈ rd, ∀ b, S.blk i = some b → w.heap[ρ i]? = some b.obj) → Keeps F w →
      Calls P f (avs.map (·.to ρ)).toArray w fun en w' => NewS w w' en q len cap) : OpOK P F ops o S { val := .s i 0 len cap, new := some (i, ⟨icv q cap, 3⟩), rd := rd } :=
  ok_call hw ho hf avs ha fun ρ w h1 h2 => (hc ρ w h1 h2).mono fun en w' h => by
    obtain ⟨g, rfl, hg, hb, hbel⟩ := h
    exact ⟨_, g, rfl, by simp [AV.s, AV.to, upd], hbel.os, hbel.tape, hbel.output, hbel.size, fun b hb _ => hbel.block b hb, (fun _ h => by cases h), fun x hx => by cases hx; exact ⟨hg, hb⟩⟩
end
theorem r_gtr {P : Program} {t : TypeId} {k : IntKind} {a b : Nat} {c : Bool} (h : decide (a > b) = c) (w : World) : (binOp .gtr t (.int k a) (.int k b)).run P w = .ok (.bool c) w := by
  subst h; simp [binOp, Op.intCmp]
theorem r_geq {P : Program} {t : TypeId} {k : IntKind} {a b : Nat} {c : Bool} (h : decide (a ≥ b) = c) (w : World) : (binOp .geq t (.int k a) (.int k b)).run P w = .ok (.bool c) w := by
  subst h; simp [binOp, Op.intCmp]
theorem fn48 : goFn Try.prog 48 = true := by kernel_rfl
theorem fn49 : goFn Try.prog 49 = true := by kernel_rfl
theorem fn56 : goFn Try.prog 56 = true := by kernel_rfl
theorem fn57 : goFn Try.prog 57 = true := by kernel_rfl
theorem fn32 : goFn Try.prog 32 = true := by kernel_rfl

/-! ### Less -/
def lessF : Nat → Nat
  | 0 => 0
  | k + 1 => setByte (lessF k) k 255
theorem lessF_all : setByte (setByte (lessF 32) 0 235) 31 127 = pp - 2 := by decide +kernel
def lessS (k : Nat) : St := ⟨[(0, .p 0 0), (1, .p 1 0), (2, .v (.int .i64 k))], [(0, ⟨bvc 0, 24⟩), (1, ⟨bvc (lessF k), 24⟩)]⟩
theorem less_any (w : World) : Calls Try.prog 32 #[] w fun e w' => e = .returned (bv (pp - 2)) ∧ Below w.heap.size w w' := by
  go_enter Try.func32, Try.ntmps32
  have h := Rep.start (N := 12) [] [undef, undef, undef, undef, undef, undef, undef, undef, undef, undef, undef, undef] w rfl
  apply seq_dag hmix h
  case hw =>
    apply Walk.cons
    · exact o_alloc24 0 rfl rfl
    exact Walk.nil _
  case hck => kernel_rfl
  case hQ =>
    intro ρ A w1 h
    apply seq_dag hmix h
    case hw =>
      apply Walk.cons
      · exact o_alloc24 1 rfl rfl
      exact Walk.nil _
    case hck => kernel_rfl
    case hQ =>
      intro ρ A w1 h
      refine wp_seq ?_
      apply seq_dag hmix h
      case hw =>
        apply Walk.cons
        · exact ok_assign rfl rfl rfl
        exact Walk.nil _
      case hck => kernel_rfl
      case hQ =>
        intro ρ A w1 h
        have h := h.plain (lessS 0) ⟨rfl, rfl, rfl, trivial⟩ ⟨rfl, rfl, trivial⟩ rfl
        refine wp_block ?_
        refine rep_loop 32 lessS h ?_
        intro k ρ A w2 hk h
        by_cases hlt : k < 32
        · refine wp_seq ?_
          apply seq_dag hmix h
          case hw =>
            apply Walk.cons
            · exact ok_move rfl rfl rfl
            apply Walk.cons
            · exact o_bin rfl rfl rfl rfl (r_lss (a := k) (b := 32) (decide_eq_true hlt))
            exact Walk.nil _
          case hck => kernel_rfl
          case hQ =>
            intro ρ A w1 h
            refine if_true' h rfl (wp_skip ?_)
            refine Exit.then_normal ?_
            refine wp_seq (wp_block ?_)
            apply region_dag hmix h
            case hw =>
              apply Walk.cons
              · exact ok_move rfl rfl rfl
              apply Walk.cons
              · exact o_at24 rfl rfl rfl rfl (j := k) hlt
              apply Walk.cons
              · exact o_store5 rfl rfl rfl rfl rfl (k := k) (b := 255) hlt (by decide)
              exact Walk.nil _
            case hck => kernel_rfl
            case hQ =>
              intro ρ A w1 h
              refine Exit.block_normal (Exit.then_normal ?_)
              apply region_dag hmix h
              case hw =>
                apply Walk.cons
                · exact ok_move rfl rfl rfl
                apply Walk.cons
                · exact o_bin rfl rfl rfl rfl (r_addi (a := k) (b := 1) (by omega))
                apply Walk.cons
                · exact ok_assign rfl rfl rfl
                exact Walk.nil _
              case hck => kernel_rfl
              case hQ =>
                intro ρ A w1 h
                exact ⟨_, hlt, h.plain (lessS (k + 1)) ⟨rfl, rfl, rfl, trivial⟩ ⟨rfl, rfl, trivial⟩ rfl⟩
        · obtain rfl : k = 32 := by omega
          refine wp_seq ?_
          apply seq_dag hmix h
          case hw =>
            apply Walk.cons
            · exact ok_move rfl rfl rfl
            apply Walk.cons
            · exact o_bin rfl rfl rfl rfl (r_lss (a := 32) (b := 32) (decide_eq_false hlt))
            exact Walk.nil _
          case hck => kernel_rfl
          case hQ =>
            intro ρ A w1 h
            refine if_false' h rfl (wp_exit (at_exit' ?_))
            refine Exit.then_normal ?_
            apply seq_dag hmix h
            case hw =>
              apply Walk.cons
              · exact o_at24 rfl rfl rfl rfl (by decide)
              apply Walk.cons
              · exact o_store5 rfl rfl rfl rfl rfl (k := 0) (b := 235) (by decide) (by decide)
              exact Walk.nil _
            case hck => kernel_rfl
            case hQ =>
              intro ρ A w1 h
              apply seq_dag hmix h
              case hw =>
                apply Walk.cons
                · exact o_at24 rfl rfl rfl rfl (by decide)
                apply Walk.cons
                · exact o_store5 rfl rfl rfl rfl rfl (k := 31) (b := 127) (by decide) (by decide)
                exact Walk.nil _
              case hck => kernel_rfl
              case hQ =>
                intro ρ A w1 h
                apply seq_dag hmix h
                case hw =>
                  apply Walk.cons
                  · exact o_load24 rfl rfl rfl rfl
                  apply Walk.cons
                  · exact o_store24 rfl rfl rfl rfl rfl
                  exact Walk.nil _
                case hck => kernel_rfl
                case hQ =>
                  intro ρ A w1 h
                  refine wp_ret ?_
                  exact h.result24 Try.results32 rfl rfl ⟨by rw [lessF_all], h.below⟩

/-! ### Load -/
def loadS (n k : Nat) : St := ⟨[(1, .p 1 0), (3, .s 5 0 16 16), (4, .v (.int .i64 k))], [(1, ⟨bvc n, 24⟩), (5, ⟨icv (limF n k) 16, 3⟩)]⟩
theorem load49_any (n : Nat) (w : World) : Calls Try.prog 49 #[bv n] w fun e w' => NewS w w' e (limF n 16) 16 16 := by
  go_enter Try.func49, Try.ntmps49
  have h := Rep.start (N := 27) [bv n] [undef, undef, undef, undef, undef, undef, undef, undef, undef, undef, undef, undef, undef, undef, undef, undef, undef, undef, undef, undef, undef, undef, undef, undef, undef, undef] w rfl
  apply seq_dag hmix h
  case hw =>
    apply Walk.cons
    · exact o_box24 1 rfl rfl rfl
    apply Walk.cons
    · exact ok_assign rfl rfl rfl
    exact Walk.nil _
  case hck => kernel_rfl
  case hQ =>
    intro ρ A w1 h
    apply seq_dag hmix h
    case hw =>
      apply Walk.cons
      · exact o_make 5 rfl rfl (l := 16) (c := 16) rfl rfl (by decide) (by decide) (by decide)
      apply Walk.cons
      · exact ok_assign rfl rfl rfl
      exact Walk.nil _
    case hck => kernel_rfl
    case hQ =>
      intro ρ A w1 h
      refine wp_seq ?_
      apply seq_dag hmix h
      case hw =>
        apply Walk.cons
        · exact ok_assign rfl rfl rfl
        exact Walk.nil _
      case hck => kernel_rfl
      case hQ =>
        intro ρ A w1 h
        have h := h.plain (loadS n 0) ⟨rfl, rfl, rfl, trivial⟩ ⟨rfl, rfl, trivial⟩ rfl
        refine wp_block ?_
        refine rep_loop 16 (loadS n) h ?_
        intro k ρ A w2 hk h
        have hb0 := byteOf_lt n (2 * k)
        have hb1 := byteOf_lt n (2 * k + 1)
        by_cases hlt : k < 16
        · refine wp_seq ?_
          apply seq_dag hmix h
          case hw =>
            apply Walk.cons
            · exact ok_move rfl rfl rfl
            apply Walk.cons
            · exact o_bin rfl rfl rfl rfl (r_lss (a := k) (b := 16) (decide_eq_true hlt))
            exact Walk.nil _
          case hck => kernel_rfl
          case hQ =>
            intro ρ A w1 h
            refine if_true' h rfl (wp_skip ?_)
            refine Exit.then_normal ?_
            refine wp_seq (wp_block ?_)
            apply region_dag hmix h
            case hw =>
              apply Walk.cons
              · exact ok_move rfl rfl rfl
              apply Walk.cons
              · exact ok_move rfl rfl rfl
              apply Walk.cons
              · exact ok_move rfl rfl rfl
              apply Walk.cons
              · exact o_bin rfl rfl rfl rfl (r_muli (a := 2) (b := k) (by omega))
              apply Walk.cons
              · exact o_at24 rfl rfl rfl rfl (j := 2 * k) (by omega)
              apply Walk.cons
              · exact o_load5 rfl rfl rfl rfl (k := 2 * k) (by omega)
              apply Walk.cons
              · exact o_conv rfl rfl rfl (by kernel_rfl) Try.underlying3 (wrap_small (byteOf n (2 * k)) (by omega))
              apply Walk.cons
              · exact ok_move rfl rfl rfl
              apply Walk.cons
              · exact o_bin rfl rfl rfl rfl (r_muli (a := 2) (b := k) (by omega))
              apply Walk.cons
              · exact o_bin rfl rfl rfl rfl (r_addi (a := 2 * k) (b := 1) (by omega))
              apply Walk.cons
              · exact o_at24 rfl rfl rfl rfl (j := 2 * k + 1) (by omega)
              apply Walk.cons
              · exact o_load5 rfl rfl rfl rfl (k := 2 * k + 1) (by omega)
              apply Walk.cons
              · exact o_conv rfl rfl rfl (by kernel_rfl) Try.underlying3 (wrap_small (byteOf n (2 * k + 1)) (by omega))
              apply Walk.cons
              · exact o_bin rfl rfl rfl rfl (r_muli (a := 256) (b := byteOf n (2 * k + 1)) (by omega))
              apply Walk.cons
              · exact o_bin rfl rfl rfl rfl (r_addi (a := byteOf n (2 * k)) (b := 256 * byteOf n (2 * k + 1)) (by omega))
              apply Walk.cons
              · exact o_at46z rfl rfl rfl rfl (j := k) hlt
              apply Walk.cons
              · exact o_store3 rfl rfl rfl rfl rfl (j := k) hlt
              exact Walk.nil _
            case hck => kernel_rfl
            case hQ =>
              intro ρ A w1 h
              refine Exit.block_normal (Exit.then_normal ?_)
              apply region_dag hmix h
              case hw =>
                apply Walk.cons
                · exact ok_move rfl rfl rfl
                apply Walk.cons
                · exact o_bin rfl rfl rfl rfl (r_addi (a := k) (b := 1) (by omega))
                apply Walk.cons
                · exact ok_assign rfl rfl rfl
                exact Walk.nil _
              case hck => kernel_rfl
              case hQ =>
                intro ρ A w1 h
                exact ⟨_, hlt, h.plain (loadS n (k + 1)) ⟨rfl, rfl, rfl, trivial⟩ ⟨rfl, by rw [← limF_step]; rfl, trivial⟩ rfl⟩
        · obtain rfl : k = 16 := by omega
          refine wp_seq ?_
          apply seq_dag hmix h
          case hw =>
            apply Walk.cons
            · exact ok_move rfl rfl rfl
            apply Walk.cons
            · exact o_bin rfl rfl rfl rfl (r_lss (a := 16) (b := 16) (decide_eq_false hlt))
            exact Walk.nil _
          case hck => kernel_rfl
          case hQ =>
            intro ρ A w1 h
            refine if_false' h rfl (wp_exit (at_exit' ?_))
            refine Exit.then_normal ?_
            apply seq_dag hmix h
            case hw =>
              apply Walk.cons
              · exact ok_move rfl rfl rfl
              apply Walk.cons
              · exact ok_assign rfl rfl rfl
              exact Walk.nil _
            case hck => kernel_rfl
            case hQ =>
              intro ρ A w1 h
              refine wp_ret ?_
              exact h.result_s Try.results49 rfl rfl (fun _ h => h)

/-! ### carried -/
def carS (v : Value) (q : Nat → Nat) (L k : Nat) : St := ⟨[(0, .v v), (3, .s 9 0 k (L + 4)), (4, .v (.int .i64 (carN q k))), (5, .v (.int .i64 k))], [(9, ⟨icv (digF q k) (L + 4), 3⟩)]⟩
set_option maxRecDepth 20000 in
set_option maxHeartbeats 1000000 in
theorem carried_any (f : Nat → Nat) (L cap g : Nat) (hL : 16 ≤ L) (hL2 : L ≤ 64) (hf : ∀ j, j < L → f j < 1099511627776) (w : World) (hc : ∀ j, j < L → w.cell? ⟨g, 0 + j, none⟩ = some (.int .i64 (f j))) :
    Calls Try.prog 56 #[.slice (some ⟨g, 0, none⟩) L cap] w fun e w' => NewS w w' e (digF (cutL f L) (lenN (cutL f L) L)) (lenN (cutL f L) L) (L + 4) := by
  have hq := cutL_lt hf
  have hend := carN_end hf
  have hcut : ∀ k, k < L → cutL f L k = f k := fun k hk => by simp [cutL, hk]
  have hcut0 : ∀ k, ¬ k < L → cutL f L k = 0 := fun k hk => by simp [cutL, hk]
  have hR1 := lenN_ge (cutL f L) L
  have hR2 := lenN_le (cutL f L) L
  have hgo : ∀ k, ¬ k < L → k < lenN (cutL f L) L → 0 < carN (cutL f L) k := fun k h1 h2 => carN_go (by omega) h2
  have hcl := carN_lt hq
  go_enter Try.func56, Try.ntmps56
  have h := Rep.start (N := 44) [.slice (some ⟨g, 0, none⟩) L cap] [undef, undef, undef, undef, undef, undef, undef, undef, undef, undef, undef, undef, undef, undef, undef, undef, undef, undef, undef, undef, undef, undef, undef, undef, undef, undef, undef, undef, undef, undef, undef, undef, undef, undef, undef, undef, undef, undef, undef, undef, undef, undef, undef] w rfl
  apply seq_dag hmix h
  case hw =>
    apply Walk.cons
    · exact ok_assign rfl rfl rfl
    exact Walk.nil _
  case hck => kernel_rfl
  case hQ =>
    intro ρ A w1 h
    apply seq_dag hmix h
    case hw =>
      apply Walk.cons
      · exact ok_move rfl rfl rfl
      apply Walk.cons
      · exact o_len46ro rfl rfl rfl rfl
      apply Walk.cons
      · exact o_bin rfl rfl rfl rfl (r_addi (a := L) (b := 4) (by omega))
      apply Walk.cons
      · exact o_make 9 rfl rfl (l := 0) (c := L + 4) rfl rfl (by omega) (by omega) (by omega)
      apply Walk.cons
      · exact ok_assign rfl rfl rfl
      exact Walk.nil _
    case hck => kernel_rfl
    case hQ =>
      intro ρ A w1 h
      apply seq_dag hmix h
      case hw =>
        apply Walk.cons
        · exact ok_assign rfl rfl rfl
        exact Walk.nil _
      case hck => kernel_rfl
      case hQ =>
        intro ρ A w1 h
        refine wp_seq ?_
        apply seq_dag hmix h
        case hw =>
          apply Walk.cons
          · exact ok_assign rfl rfl rfl
          exact Walk.nil _
        case hck => kernel_rfl
        case hQ =>
          intro ρ A w1 h
          generalize hQ : cutL f L = q at *
          generalize hR : lenN q L = R at *
          have h := h.plain (carS (.slice (some ⟨g, 0, none⟩) L cap) q L 0) ⟨rfl, rfl, rfl, rfl, trivial⟩ ⟨rfl, trivial⟩ rfl
          refine wp_block ?_
          refine rep_loop R (carS (.slice (some ⟨g, 0, none⟩) L cap) q L) h ?_
          intro k ρ A w2 hk h
          have hck := hcl k
          have hqk := hq k
          by_cases hlt : k < R
          · by_cases hkL : k < L
            · have hfk := hcut k hkL
              have hcell : w.cell? ⟨g, 0 + k, none⟩ = some (.int .i64 (q k)) := by rw [hfk]; exact hc k hkL
              refine wp_seq ?_
              apply seq_dag hmix h
              case hw =>
                apply Walk.cons
                · exact ok_move rfl rfl rfl
                apply Walk.cons
                · exact ok_move rfl rfl rfl
                apply Walk.cons
                · exact o_len46ro rfl rfl rfl rfl
                apply Walk.cons
                · exact o_bin rfl rfl rfl rfl (r_lss (a := k) (b := L) (decide_eq_true hkL))
                apply Walk.cons
                · exact ok_move rfl rfl rfl
                apply Walk.cons
                · exact ok_skip rfl
                apply Walk.cons
                · exact ok_skip rfl
                apply Walk.cons
                · exact ok_pick_true rfl rfl rfl rfl
                exact Walk.nil _
              case hck => kernel_rfl
              case hQ =>
                intro ρ A w1 h
                refine if_true' h rfl (wp_skip ?_)
                refine Exit.then_normal ?_
                refine wp_seq (wp_block ?_)
                refine wp_seq (wp_seq ?_)
                apply region_dag hmix h
                case hw =>
                  apply Walk.cons
                  · exact ok_move rfl rfl rfl
                  apply Walk.cons
                  · exact ok_move rfl rfl rfl
                  apply Walk.cons
                  · exact o_len46ro rfl rfl rfl rfl
                  apply Walk.cons
                  · exact o_bin rfl rfl rfl rfl (r_lss (a := k) (b := L) (decide_eq_true hkL))
                  exact Walk.nil _
                case hck => kernel_rfl
                case hQ =>
                  intro ρ A w1 h
                  refine if_true' h rfl ?_
                  apply region_dag hmix h
                  case hw =>
                    apply Walk.cons
                    · exact ok_move rfl rfl rfl
                    apply Walk.cons
                    · exact ok_move rfl rfl rfl
                    apply Walk.cons
                    · exact ok_move rfl rfl rfl
                    apply Walk.cons
                    · exact o_at46ro rfl rfl rfl rfl hkL
                    apply Walk.cons
                    · exact o_load3ro rfl rfl rfl (fun h => h) hcell
                    apply Walk.cons
                    · exact o_bin rfl rfl rfl rfl (r_addi (a := carN q k) (b := q k) (by omega))
                    apply Walk.cons
                    · exact ok_assign rfl rfl rfl
                    exact Walk.nil _
                  case hck => kernel_rfl
                  case hQ =>
                    intro ρ A w1 h
                    refine Exit.then_normal ?_
                    apply seq_dag hmix h
                    case hw =>
                      apply Walk.cons
                      · exact ok_move rfl rfl rfl
                      apply Walk.cons
                      · exact ok_move rfl rfl rfl
                      apply Walk.cons
                      · exact o_bin rfl rfl rfl rfl (r_remi (a := carN q k + q k) (b := 65536) (by decide))
                      apply Walk.cons
                      · exact o_lit46 33 rfl rfl rfl
                      apply Walk.cons
                      · exact o_app46 rfl rfl rfl rfl rfl rfl rfl (by omega)
                      apply Walk.cons
                      · exact ok_assign rfl rfl rfl
                      exact Walk.nil _
                    case hck => kernel_rfl
                    case hQ =>
                      intro ρ A w1 h
                      apply region_dag hmix h
                      case hw =>
                        apply Walk.cons
                        · exact ok_move rfl rfl rfl
                        apply Walk.cons
                        · exact o_bin rfl rfl rfl rfl (r_quoi (a := carN q k + q k) (b := 65536) (by decide) (by omega))
                        apply Walk.cons
                        · exact ok_assign rfl rfl rfl
                        exact Walk.nil _
                      case hck => kernel_rfl
                      case hQ =>
                        intro ρ A w1 h
                        refine Exit.block_normal (Exit.then_normal ?_)
                        apply region_dag hmix h
                        case hw =>
                          apply Walk.cons
                          · exact ok_move rfl rfl rfl
                          apply Walk.cons
                          · exact o_bin rfl rfl rfl rfl (r_addi (a := k) (b := 1) (by omega))
                          apply Walk.cons
                          · exact ok_assign rfl rfl rfl
                          exact Walk.nil _
                        case hck => kernel_rfl
                        case hQ =>
                          intro ρ A w1 h
                          exact ⟨_, hlt, h.plain (carS (.slice (some ⟨g, 0, none⟩) L cap) q L (k + 1)) ⟨rfl, rfl, rfl, rfl, trivial⟩ ⟨by rw [← digF_step]; rfl, trivial⟩ rfl⟩
            · have hfk := hcut0 k hkL
              have hgk := hgo k hkL hlt
              refine wp_seq ?_
              apply seq_dag hmix h
              case hw =>
                apply Walk.cons
                · exact ok_move rfl rfl rfl
                apply Walk.cons
                · exact ok_move rfl rfl rfl
                apply Walk.cons
                · exact o_len46ro rfl rfl rfl rfl
                apply Walk.cons
                · exact o_bin rfl rfl rfl rfl (r_lss (a := k) (b := L) (decide_eq_false hkL))
                apply Walk.cons
                · exact ok_move rfl rfl rfl
                apply Walk.cons
                · exact ok_move rfl rfl rfl
                apply Walk.cons
                · exact o_bin rfl rfl rfl rfl (r_gtr (a := carN q k) (b := 0) (decide_eq_true hgk))
                apply Walk.cons
                · exact ok_pick_false rfl rfl rfl rfl
                exact Walk.nil _
              case hck => kernel_rfl
              case hQ =>
                intro ρ A w1 h
                refine if_true' h rfl (wp_skip ?_)
                refine Exit.then_normal ?_
                refine wp_seq (wp_block ?_)
                refine wp_seq (wp_seq ?_)
                apply region_dag hmix h
                case hw =>
                  apply Walk.cons
                  · exact ok_move rfl rfl rfl
                  apply Walk.cons
                  · exact ok_move rfl rfl rfl
                  apply Walk.cons
                  · exact o_len46ro rfl rfl rfl rfl
                  apply Walk.cons
                  · exact o_bin rfl rfl rfl rfl (r_lss (a := k) (b := L) (decide_eq_false hkL))
                  exact Walk.nil _
                case hck => kernel_rfl
                case hQ =>
                  intro ρ A w1 h
                  refine if_false' h rfl (wp_skip ?_)
                  refine Exit.then_normal ?_
                  apply seq_dag hmix h
                  case hw =>
                    apply Walk.cons
                    · exact ok_move rfl rfl rfl
                    apply Walk.cons
                    · exact ok_move rfl rfl rfl
                    apply Walk.cons
                    · exact o_bin rfl rfl rfl rfl (r_remi (a := carN q k) (b := 65536) (by decide))
                    apply Walk.cons
                    · exact o_lit46 33 rfl rfl rfl
                    apply Walk.cons
                    · exact o_app46 rfl rfl rfl rfl rfl rfl rfl (by omega)
                    apply Walk.cons
                    · exact ok_assign rfl rfl rfl
                    exact Walk.nil _
                  case hck => kernel_rfl
                  case hQ =>
                    intro ρ A w1 h
                    apply region_dag hmix h
                    case hw =>
                      apply Walk.cons
                      · exact ok_move rfl rfl rfl
                      apply Walk.cons
                      · exact o_bin rfl rfl rfl rfl (r_quoi (a := carN q k) (b := 65536) (by decide) (by omega))
                      apply Walk.cons
                      · exact ok_assign rfl rfl rfl
                      exact Walk.nil _
                    case hck => kernel_rfl
                    case hQ =>
                      intro ρ A w1 h
                      refine Exit.block_normal (Exit.then_normal ?_)
                      apply region_dag hmix h
                      case hw =>
                        apply Walk.cons
                        · exact ok_move rfl rfl rfl
                        apply Walk.cons
                        · exact o_bin rfl rfl rfl rfl (r_addi (a := k) (b := 1) (by omega))
                        apply Walk.cons
                        · exact ok_assign rfl rfl rfl
                        exact Walk.nil _
                      case hck => kernel_rfl
                      case hQ =>
                        intro ρ A w1 h
                        have e1 : digN q k = carN q k % 65536 := by rw [digN, hfk, Nat.add_zero]
                        have e2 : carN q (k + 1) = carN q k / 65536 := by rw [carN, hfk, Nat.add_zero]
                        exact ⟨_, hlt, h.plain (carS (.slice (some ⟨g, 0, none⟩) L cap) q L (k + 1)) ⟨rfl, rfl, by rw [e2]; rfl, rfl, trivial⟩ ⟨by rw [← digF_step, e1]; rfl, trivial⟩ rfl⟩
          · obtain rfl : k = R := by omega
            have hkL : ¬ k < L := by omega
            refine wp_seq ?_
            apply seq_dag hmix h
            case hw =>
              apply Walk.cons
              · exact ok_move rfl rfl rfl
              apply Walk.cons
              · exact ok_move rfl rfl rfl
              apply Walk.cons
              · exact o_len46ro rfl rfl rfl rfl
              apply Walk.cons
              · exact o_bin rfl rfl rfl rfl (r_lss (a := k) (b := L) (decide_eq_false hkL))
              apply Walk.cons
              · exact ok_move rfl rfl rfl
              apply Walk.cons
              · exact ok_move rfl rfl rfl
              apply Walk.cons
              · exact o_bin rfl rfl rfl rfl (r_gtr (a := carN q k) (b := 0) (decide_eq_false (by omega)))
              apply Walk.cons
              · exact ok_pick_false rfl rfl rfl rfl
              exact Walk.nil _
            case hck => kernel_rfl
            case hQ =>
              intro ρ A w1 h
              refine if_false' h rfl (wp_exit (at_exit' ?_))
              refine Exit.then_normal ?_
              refine wp_seq (wp_block ?_)
              refine rep_loop 0 (fun _ => (carS (.slice (some ⟨g, 0, none⟩) L cap) q L k)) (h.plain (carS (.slice (some ⟨g, 0, none⟩) L cap) q L k) ⟨rfl, rfl, rfl, rfl, trivial⟩ ⟨rfl, trivial⟩ rfl) ?_
              intro _ ρ A w2 _ h
              refine wp_seq ?_
              apply seq_dag hmix h
              case hw =>
                apply Walk.cons
                · exact ok_move rfl rfl rfl
                apply Walk.cons
                · exact o_len46 rfl rfl rfl rfl
                apply Walk.cons
                · exact o_bin rfl rfl rfl rfl (r_lss (a := k) (b := 16) (decide_eq_false (by omega)))
                exact Walk.nil _
              case hck => kernel_rfl
              case hQ =>
                intro ρ A w1 h
                refine if_false' h rfl (wp_exit (at_exit' ?_))
                refine Exit.then_normal ?_
                apply seq_dag hmix h
                case hw =>
                  apply Walk.cons
                  · exact ok_move rfl rfl rfl
                  apply Walk.cons
                  · exact ok_assign rfl rfl rfl
                  exact Walk.nil _
                case hck => kernel_rfl
                case hQ =>
                  intro ρ A w1 h
                  refine wp_ret ?_
                  exact h.result_s Try.results56 rfl rfl (fun _ h => h)

/-! ### atLeast -/
def allF (f : Nat → Nat) : Bool := (List.range 14).all fun j => decide (f (j + 1) = 65535)
theorem allF_true {f : Nat → Nat} (h : ∀ j, j < 14 → f (j + 1) = 65535) : allF f = true := by
  rw [allF, List.all_eq_true]
  exact fun j hj => decide_eq_true (h j (List.mem_range.1 hj))
theorem allF_of {f : Nat → Nat} (h : allF f = true) : ∀ j, j < 14 → f (j + 1) = 65535 := by
  rw [allF, List.all_eq_true] at h
  exact fun j hj => of_decide_eq_true (h j (List.mem_range.2 hj))
theorem allF_false {f : Nat → Nat} (h : ¬ ∀ j, j < 14 → f (j + 1) = 65535) : allF f = false := by
  cases hb : allF f with
  | false => rfl
  | true => exact absurd (allF_of hb) h
theorem firstBad {f : Nat → Nat} (h : ¬ ∀ j, j < 14 → f (j + 1) = 65535) : ∃ m, m < 14 ∧ f (m + 1) ≠ 65535 ∧ ∀ j, j < m → f (j + 1) = 65535 := by
  have key : ∀ n, n ≤ 14 → (∀ j, j < n → f (j + 1) = 65535) ∨ ∃ m, m < n ∧ f (m + 1) ≠ 65535 ∧ ∀ j, j < m → f (j + 1) = 65535 := by
    intro n
    induction n with
    | zero => exact fun _ => .inl fun j hj => absurd hj (Nat.not_lt_zero j)
    | succ n ih =>
      intro hn
      rcases ih (by omega) with h1 | ⟨m, h1, h2, h3⟩
      · by_cases h4 : f (n + 1) = 65535
        · refine .inl fun j hj => ?_
          by_cases h5 : j = n
          · rw [h5, h4]
          · exact h1 j (by omega)
        · exact .inr ⟨n, by omega, h4, h1⟩
      · exact .inr ⟨m, by omega, h2, h3⟩
  rcases key 14 (Nat.le_refl _) with h1 | h1
  · exact absurd h1 h
  · exact h1
def geP (f : Nat → Nat) : Bool := allF f && (decide (f 15 = 32767) && decide (f 0 ≥ 65517))
def atlS (v : Value) (k : Nat) : St := ⟨[(0, .v v), (3, .v (.int .i64 ((k + 1 : Nat) : Int)))], []⟩
theorem atLeast_any (f : Nat → Nat) (L cap g : Nat) (hL : 16 ≤ L) (w : World) (hc : ∀ j, j < L → w.cell? ⟨g, 0 + j, none⟩ = some (.int .i64 (f j))) :
    Calls Try.prog 57 #[.slice (some ⟨g, 0, none⟩) L cap] w fun e w' => e = .returned (.bool (geP f)) ∧ Below w.heap.size w w' := by
  go_enter Try.func57, Try.ntmps57
  have h := Rep.start (N := 23) [.slice (some ⟨g, 0, none⟩) L cap] [undef, undef, undef, undef, undef, undef, undef, undef, undef, undef, undef, undef, undef, undef, undef, undef, undef, undef, undef, undef, undef, undef] w rfl
  apply seq_dag hmix h
  case hw =>
    apply Walk.cons
    · exact ok_assign rfl rfl rfl
    exact Walk.nil _
  case hck => kernel_rfl
  case hQ =>
    intro ρ A w1 h
    refine wp_seq ?_
    apply seq_dag hmix h
    case hw =>
      apply Walk.cons
      · exact ok_assign rfl rfl rfl
      exact Walk.nil _
    case hck => kernel_rfl
    case hQ =>
      intro ρ A w1 h
      have h := h.plain (atlS (.slice (some ⟨g, 0, none⟩) L cap) 0) ⟨rfl, rfl, trivial⟩ trivial rfl
      by_cases hall : ∀ j, j < 14 → f (j + 1) = 65535
      · refine wp_block ?_
        refine rep_loop 14 (atlS (.slice (some ⟨g, 0, none⟩) L cap)) h ?_
        intro k ρ A w2 hk h
        by_cases hlt : k < 14
        · have hcell := hc (k + 1) (by omega)
          have hfk := hall k hlt
          refine wp_seq ?_
          apply seq_dag hmix h
          case hw =>
            apply Walk.cons
            · exact ok_move rfl rfl rfl
            apply Walk.cons
            · exact o_bin rfl rfl rfl rfl (r_lss (a := k + 1) (b := 15) (decide_eq_true (by omega)))
            exact Walk.nil _
          case hck => kernel_rfl
          case hQ =>
            intro ρ A w1 h
            refine if_true' h rfl (wp_skip ?_)
            refine Exit.then_normal ?_
            refine wp_seq (wp_block ?_)
            refine wp_seq ?_
            apply region_dag hmix h
            case hw =>
              apply Walk.cons
              · exact ok_move rfl rfl rfl
              apply Walk.cons
              · exact ok_move rfl rfl rfl
              apply Walk.cons
              · exact o_at46ro rfl rfl rfl rfl (j := k + 1) (by omega)
              apply Walk.cons
              · exact o_load3ro rfl rfl rfl (fun h => h) hcell
              apply Walk.cons
              · exact o_bin rfl rfl rfl rfl (r_neqi (a := f (k + 1)) (b := 65535) (decide_eq_false (by omega)))
              exact Walk.nil _
            case hck => kernel_rfl
            case hQ =>
              intro ρ A w1 h
              refine if_false' h rfl (wp_skip ?_)
              refine Exit.block_normal (Exit.then_normal ?_)
              apply region_dag hmix h
              case hw =>
                apply Walk.cons
                · exact ok_move rfl rfl rfl
                apply Walk.cons
                · exact o_bin rfl rfl rfl rfl (r_addi (a := k + 1) (b := 1) (by omega))
                apply Walk.cons
                · exact ok_assign rfl rfl rfl
                exact Walk.nil _
              case hck => kernel_rfl
              case hQ =>
                intro ρ A w1 h
                exact ⟨_, hlt, h.plain (atlS (.slice (some ⟨g, 0, none⟩) L cap) (k + 1)) ⟨rfl, rfl, trivial⟩ trivial rfl⟩
        · obtain rfl : k = 14 := by omega
          have hc15 := hc 15 (by omega)
          have hc0 := hc 0 (by omega)
          by_cases h15 : f 15 = 32767
          · refine wp_seq ?_
            apply seq_dag hmix h
            case hw =>
              apply Walk.cons
              · exact ok_move rfl rfl rfl
              apply Walk.cons
              · exact o_bin rfl rfl rfl rfl (r_lss (a := 14 + 1) (b := 15) (decide_eq_false (by omega)))
              exact Walk.nil _
            case hck => kernel_rfl
            case hQ =>
              intro ρ A w1 h
              refine if_false' h rfl (wp_exit (at_exit' ?_))
              refine Exit.then_normal ?_
              apply seq_dag hmix h
              case hw =>
                apply Walk.cons
                · exact ok_move rfl rfl rfl
                apply Walk.cons
                · exact o_at46ro rfl rfl rfl rfl (j := 15) (by omega)
                apply Walk.cons
                · exact o_load3ro rfl rfl rfl (fun h => h) hc15
                apply Walk.cons
                · exact o_bin rfl rfl rfl rfl (r_eqli (a := f 15) (b := 32767) (decide_eq_true h15))
                apply Walk.cons
                · exact ok_move rfl rfl rfl
                apply Walk.cons
                · exact ok_move rfl rfl rfl
                apply Walk.cons
                · exact o_at46ro rfl rfl rfl rfl (j := 0) (by omega)
                apply Walk.cons
                · exact o_load3ro rfl rfl rfl (fun h => h) hc0
                apply Walk.cons
                · exact o_bin rfl rfl rfl rfl (r_geq (a := f 0) (b := 65517) rfl)
                apply Walk.cons
                · exact ok_pick_true rfl rfl rfl rfl
                apply Walk.cons
                · exact ok_assign rfl rfl rfl
                exact Walk.nil _
              case hck => kernel_rfl
              case hQ =>
                intro ρ A w1 h
                refine wp_ret ?_
                exact h.result_tmp Try.results57 rfl ⟨by rw [geP, allF_true hall, decide_eq_true h15, Bool.true_and, Bool.true_and], h.below⟩
          · refine wp_seq ?_
            apply seq_dag hmix h
            case hw =>
              apply Walk.cons
              · exact ok_move rfl rfl rfl
              apply Walk.cons
              · exact o_bin rfl rfl rfl rfl (r_lss (a := 14 + 1) (b := 15) (decide_eq_false (by omega)))
              exact Walk.nil _
            case hck => kernel_rfl
            case hQ =>
              intro ρ A w1 h
              refine if_false' h rfl (wp_exit (at_exit' ?_))
              refine Exit.then_normal ?_
              apply seq_dag hmix h
              case hw =>
                apply Walk.cons
                · exact ok_move rfl rfl rfl
                apply Walk.cons
                · exact o_at46ro rfl rfl rfl rfl (j := 15) (by omega)
                apply Walk.cons
                · exact o_load3ro rfl rfl rfl (fun h => h) hc15
                apply Walk.cons
                · exact o_bin rfl rfl rfl rfl (r_eqli (a := f 15) (b := 32767) (decide_eq_false h15))
                apply Walk.cons
                · exact ok_move rfl rfl rfl
                apply Walk.cons
                · exact ok_skip rfl
                apply Walk.cons
                · exact ok_skip rfl
                apply Walk.cons
                · exact ok_skip rfl
                apply Walk.cons
                · exact ok_skip rfl
                apply Walk.cons
                · exact ok_pick_false rfl rfl rfl rfl
                apply Walk.cons
                · exact ok_assign rfl rfl rfl
                exact Walk.nil _
              case hck => kernel_rfl
              case hQ =>
                intro ρ A w1 h
                refine wp_ret ?_
                exact h.result_tmp Try.results57 rfl ⟨by rw [geP, allF_true hall, decide_eq_false h15, Bool.true_and, Bool.false_and], h.below⟩
      · obtain ⟨m, hm14, hbad, hok⟩ : ∃ m, m < 14 ∧ f (m + 1) ≠ 65535 ∧ ∀ j, j < m → f (j + 1) = 65535 := firstBad hall
        have hmL := hc (m + 1) (by omega)
        refine wp_block ?_
        refine rep_loop m (atlS (.slice (some ⟨g, 0, none⟩) L cap)) h ?_
        intro k ρ A w2 hk h
        refine wp_seq ?_
        apply seq_dag hmix h
        case hw =>
          apply Walk.cons
          · exact ok_move rfl rfl rfl
          apply Walk.cons
          · exact o_bin rfl rfl rfl rfl (r_lss (a := k + 1) (b := 15) (decide_eq_true (by omega)))
          exact Walk.nil _
        case hck => kernel_rfl
        case hQ =>
          intro ρ A w1 h
          refine if_true' h rfl (wp_skip ?_)
          refine Exit.then_normal ?_
          refine wp_seq (wp_block ?_)
          by_cases hlt : k < m
          · have hcell := hc (k + 1) (by omega)
            have hfk := hok k hlt
            refine wp_seq ?_
            apply region_dag hmix h
            case hw =>
              apply Walk.cons
              · exact ok_move rfl rfl rfl
              apply Walk.cons
              · exact ok_move rfl rfl rfl
              apply Walk.cons
              · exact o_at46ro rfl rfl rfl rfl (j := k + 1) (by omega)
              apply Walk.cons
              · exact o_load3ro rfl rfl rfl (fun h => h) hcell
              apply Walk.cons
              · exact o_bin rfl rfl rfl rfl (r_neqi (a := f (k + 1)) (b := 65535) (decide_eq_false (by omega)))
              exact Walk.nil _
            case hck => kernel_rfl
            case hQ =>
              intro ρ A w1 h
              refine if_false' h rfl (wp_skip ?_)
              refine Exit.block_normal (Exit.then_normal ?_)
              apply region_dag hmix h
              case hw =>
                apply Walk.cons
                · exact ok_move rfl rfl rfl
                apply Walk.cons
                · exact o_bin rfl rfl rfl rfl (r_addi (a := k + 1) (b := 1) (by omega))
                apply Walk.cons
                · exact ok_assign rfl rfl rfl
                exact Walk.nil _
              case hck => kernel_rfl
              case hQ =>
                intro ρ A w1 h
                exact ⟨_, hlt, h.plain (atlS (.slice (some ⟨g, 0, none⟩) L cap) (k + 1)) ⟨rfl, rfl, trivial⟩ trivial rfl⟩
          · obtain rfl : k = m := by omega
            refine wp_seq ?_
            apply region_dag hmix h
            case hw =>
              apply Walk.cons
              · exact ok_move rfl rfl rfl
              apply Walk.cons
              · exact ok_move rfl rfl rfl
              apply Walk.cons
              · exact o_at46ro rfl rfl rfl rfl (j := k + 1) (by omega)
              apply Walk.cons
              · exact o_load3ro rfl rfl rfl (fun h => h) hmL
              apply Walk.cons
              · exact o_bin rfl rfl rfl rfl (r_neqi (a := f (k + 1)) (b := 65535) (decide_eq_true hbad))
              exact Walk.nil _
            case hck => kernel_rfl
            case hQ =>
              intro ρ A w1 h
              refine if_true' h rfl ?_
              apply seq_dag hmix h
              case hw =>
                apply Walk.cons
                · exact ok_assign rfl rfl rfl
                exact Walk.nil _
              case hck => kernel_rfl
              case hQ =>
                intro ρ A w1 h
                refine wp_ret ?_
                show bodyPost Try.prog Try.f57 (fun e w1 => e = .returned (.bool (geP f)) ∧ Below w.heap.size w w1) .ret _ _
                have hne : ¬ ∀ j, j < 14 → f (j + 1) = 65535 := fun h => hbad (h k (by omega))
                exact h.result_tmp Try.results57 rfl ⟨by rw [geP, allF_false hne, Bool.false_and], h.below⟩
end Go.Proofs.Ytnbdeajjfhlmnaa
