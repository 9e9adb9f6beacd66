/-
  '==' on prefixes.
-/
import Derived.Test.YtnppgaohfegloaaShape
import Derived.Laws.StructEq
namespace Go.Proofs.Ytnppgaohfegloaa
open Go.RowKit

section
variable {P : Program} {w : World}
theorem eqFields_two {d : Nat} {xs ys : Array Value} {fs : List Field} {t1 o1 t2 o2 : Nat} (h : fs.map (fun f => (decide (f.name ≠ "_"), f.type, f.offset)) = [(true, t1, o1), (true, t2, o2)])
    {x1 x2 y1 y2 : Value} {r1 r2 : Bool} (h1 : (part t1 xs o1).run P w = .ok x1 w) (h2 : (part t1 ys o1).run P w = .ok y1 w) (h3 : (Op.equalIn d t1 x1 y1).run P w = .ok r1 w)
    (h4 : (part t2 xs o2).run P w = .ok x2 w) (h5 : (part t2 ys o2).run P w = .ok y2 w) (h6 : (Op.equalIn d t2 x2 y2).run P w = .ok r2 w) : (Op.eqFields d xs ys fs).run P w = .ok (r1 && r2) w := by
  have hl : fs.length = 2 := by
    have := congrArg List.length h
    rwa [List.length_map] at this
  obtain ⟨f, g, rfl⟩ : ∃ f g, fs = [f, g] := by
    match fs, hl with
    | [f, g], _ => exact ⟨f, g, rfl⟩
  simp only [List.map_cons, List.map_nil, List.cons.injEq, Prod.mk.injEq, and_true, decide_eq_true_eq] at h
  obtain ⟨⟨n1, rfl, rfl⟩, n2, rfl, rfl⟩ := h
  simp only [Op.eqFields, n1, n2, ne_eq, not_false_eq_true, if_true, Sem.run_bind, h1, h2, h3, Result.andThen_ok]
  cases r1
  · rfl
  · simp only [Bool.not_true, Bool.false_eq_true, if_false, Sem.run_bind, h4, h5, h6, Result.andThen_ok]
    cases r2 <;> rfl
theorem run_part_agg {t : TypeId} {n off : Nat} {cs bs : Array Value} (ht : tAgg P t = true) (hn : tSize P t = some n) (hb : cs.extract off (off + n) = bs) : (part t cs off).run P w = .ok (.agg bs) w := by
  simp [part, Sem.run_bind, run_isAgg_true ht, run_sizeOf' hn, hb]
end
theorem bytes16_eq {n m : Nat} (hn : n < 2 ^ 128) (hm : m < 2 ^ 128) : ((List.range 16).all fun i => byteOf n (15 - i) == byteOf m (15 - i)) = decide (n = m) := by
  rw [Bool.eq_iff_iff]
  simp only [List.all_eq_true, List.mem_range, beq_iff_eq, decide_eq_true_eq]
  refine ⟨fun h => byte_ext hn hm fun i hi => ?_, fun h _ _ => by rw [h]⟩
  have := h (15 - i) (by omega)
  rwa [show 15 - (15 - i) = i by omega] at this
theorem b16_get (n : Nat) : ∀ i, i < 16 → (b16 n)[i]? = some (.int .u8 (byteOf n (15 - i)))
  | 0, _ => rfl
  | 1, _ => rfl
  | 2, _ => rfl
  | 3, _ => rfl
  | 4, _ => rfl
  | 5, _ => rfl
  | 6, _ => rfl
  | 7, _ => rfl
  | 8, _ => rfl
  | 9, _ => rfl
  | 10, _ => rfl
  | 11, _ => rfl
  | 12, _ => rfl
  | 13, _ => rfl
  | 14, _ => rfl
  | 15, _ => rfl
  | _ + 16, h => absurd h (by omega)
theorem flds31 : (Try.prog.fieldsOf 31).toList.map (fun f => (decide (f.name ≠ "_"), f.type, f.offset)) = [(true, 24, 0), (true, 3, 17)] := by decide +kernel
theorem flds24 : (Try.prog.fieldsOf 24).toList.map (fun f => (decide (f.name ≠ "_"), f.type, f.offset)) = [(true, 4, 0), (true, 22, 1)] := by decide +kernel
theorem st24 : Try.prog.underlying 24 = some (.struct (Try.prog.fieldsOf 24)) := by kernel_rfl
theorem st31 : Try.prog.underlying 31 = some (.struct (Try.prog.fieldsOf 31)) := by kernel_rfl
theorem sh24 : Try.prog.stoodInHeld 24 = false := by kernel_rfl
theorem sh31 : Try.prog.stoodInHeld 31 = false := by kernel_rfl
theorem extract_of {cs bs : Array Value} {off n : Nat} (hsz : bs.size = n) (hle : off + n ≤ cs.size) (h : ∀ k, k < n → cs[off + k]? = bs[k]?) : cs.extract off (off + n) = bs := by
  apply Array.ext_getElem?
  intro i
  rw [Array.getElem?_extract]
  by_cases hi : i < n
  · rw [if_pos (by omega), h i hi]
  · rw [if_neg (by omega), Array.getElem?_eq_none (by omega)]
theorem ex_b16 (v : Bool) (n : Nat) : (adc v n).extract 1 (1 + 16) = b16 n := extract_of rfl (by rw [size_adc]; decide) (adc_b16 v n)
theorem ex_adc (v : Bool) (n : Nat) (b : Int) : (pfc v n b).extract 0 (0 + 17) = adc v n := extract_of rfl (by rw [size_pfc]; decide) (pfc_adc v n b)
theorem run_eq22 (d : Nat) {n n' : Nat} (hn : n < 2 ^ 128) (hn' : n' < 2 ^ 128) (w : World) : (Op.equalIn (d + 2) 22 (.agg (b16 n)) (.agg (b16 n'))).run Try.prog w = .ok (decide (n = n')) w := by
  have := run_equalIn_bytes (P := Try.prog) d (b16 n) (b16 n') (fun i => byteOf n (15 - i)) (fun i => byteOf n' (15 - i)) u22 Try.underlying5 sz5 (b16_get n) (b16_get n') w
  rwa [bytes16_eq hn hn'] at this
theorem run_eq24 (d : Nat) {v v' : Bool} {n n' : Nat} (hn : n < 2 ^ 128) (hn' : n' < 2 ^ 128) (w : World) : (Op.equalIn (d + 3) 24 (.agg (adc v n)) (.agg (adc v' n'))).run Try.prog w = .ok (v == v' && decide (n = n')) w := by
  rw [run_equalIn_struct w (d + 2) 24 _ _ st24 sh24]
  have h1 : (part 4 (adc v n) 0).run Try.prog w = .ok (.bool v) w := run_part_cell one4 rfl w
  have h2 : (part 4 (adc v' n') 0).run Try.prog w = .ok (.bool v') w := run_part_cell one4 rfl w
  have h4 : (part 22 (adc v n) 1).run Try.prog w = .ok (.agg (b16 n)) w := run_part_agg agg22 sz22 (ex_b16 v n)
  have h5 : (part 22 (adc v' n') 1).run Try.prog w = .ok (.agg (b16 n')) w := run_part_agg agg22 sz22 (ex_b16 v' n')
  have h3 := run_equalIn_bool' (P := Try.prog) w (d + 1) 4 v v' Try.underlying4
  generalize adc v n = xs at *
  generalize adc v' n' = ys at *
  exact eqFields_two flds24 h1 h2 h3 h4 h5 (run_eq22 d hn hn' w)
theorem run_eq31 {v v' : Bool} {n n' : Nat} {b b' : Int} (hn : n < 2 ^ 128) (hn' : n' < 2 ^ 128) (w : World) : (Op.equalIn (9996 + 4) 31 (.agg (pfc v n b)) (.agg (pfc v' n' b'))).run Try.prog w = .ok (v == v' && decide (n = n') && (b == b')) w := by
  rw [run_equalIn_struct w (9996 + 3) 31 _ _ st31 sh31]
  have h1 : (part 24 (pfc v n b) 0).run Try.prog w = .ok (.agg (adc v n)) w := run_part_agg agg24 sz24 (ex_adc v n b)
  have h2 : (part 24 (pfc v' n' b') 0).run Try.prog w = .ok (.agg (adc v' n')) w := run_part_agg agg24 sz24 (ex_adc v' n' b')
  have h4 : (part 3 (pfc v n b) 17).run Try.prog w = .ok (.int .i64 b) w := run_part_cell one3 rfl w
  have h5 : (part 3 (pfc v' n' b') 17).run Try.prog w = .ok (.int .i64 b') w := run_part_cell one3 rfl w
  have h3 := run_eq24 9996 (v := v) (v' := v') hn hn' w
  have h6 := run_equalIn_int (P := Try.prog) w (9996 + 2) 3 .i64 .i64 b b' Try.underlying3
  generalize pfc v n b = xs at *
  generalize pfc v' n' b' = ys at *
  exact eqFields_two flds31 h1 h2 h3 h4 h5 h6
theorem run_eq31' {v v' : Bool} {n n' : Nat} {b b' : Int} (hn : n < 2 ^ 128) (hn' : n' < 2 ^ 128) (w : World) : (Op.equalIn 10000 31 (.agg (pfc v n b)) (.agg (pfc v' n' b'))).run Try.prog w = .ok (v == v' && decide (n = n') && (b == b')) w := run_eq31 hn hn' w
section
variable {F : Fr} {ops : Array Oper} {S : St} {o : Oper}
theorem o_eql31 (hw : want ops S o = some true) {x y : Operand} {t' : TypeId} (ho : o.op = .binOp .eql 31 x y t') {v v' : Bool} {n n' : Nat} {b b' : Int} (hx : S.av x = some (.v (.agg (pfc v n b)))) (hy : S.av y = some (.v (.agg (pfc v' n' b'))))
    (hn : n < 2 ^ 128) (hn' : n' < 2 ^ 128) {c : Bool} (hc : decide (v = v' ∧ n = n' ∧ b = b') = c) : OpOK Try.prog F ops o S { val := .v (.bool c) } :=
  ok_value hw fun ρ a w h1 _ _ => by
    have e1 := h1 x (by simp [ho, Op.operands]) _ hx
    have e2 := h1 y (by simp [ho, Op.operands]) _ hy
    have hg : (eqGuard .eql 31 x y (.agg (pfc v n b)) (.agg (pfc v' n' b'))).run Try.prog w = .ok () w := run_eqGuard_agg w .eql 31 x y _ _ (by kernel_rfl)
    have he := run_eq31' (b := b) (b' := b') (v := v) (v' := v') hn hn' w
    have hcc : (v == v' && decide (n = n') && (b == b')) = c := by
      rw [← hc, Bool.eq_iff_iff]
      simp [and_assoc]
    rw [hcc] at he
    simp only [execOp, ho, e1, e2, AV.to_v, Sem.run_bind, hg, Result.andThen_ok, binOp, Op.equal, Op.maxDepth, he]
    rfl
theorem o_neq31 (hw : want ops S o = some true) {x y : Operand} {t' : TypeId} (ho : o.op = .binOp .neq 31 x y t') {v v' : Bool} {n n' : Nat} {b b' : Int} (hx : S.av x = some (.v (.agg (pfc v n b)))) (hy : S.av y = some (.v (.agg (pfc v' n' b'))))
    (hn : n < 2 ^ 128) (hn' : n' < 2 ^ 128) {c : Bool} (hc : (!decide (v = v' ∧ n = n' ∧ b = b')) = c) : OpOK Try.prog F ops o S { val := .v (.bool c) } :=
  ok_value hw fun ρ a w h1 _ _ => by
    have e1 := h1 x (by simp [ho, Op.operands]) _ hx
    have e2 := h1 y (by simp [ho, Op.operands]) _ hy
    have hg : (eqGuard .neq 31 x y (.agg (pfc v n b)) (.agg (pfc v' n' b'))).run Try.prog w = .ok () w := run_eqGuard_agg w .neq 31 x y _ _ (by kernel_rfl)
    have he := run_eq31' (b := b) (b' := b') (v := v) (v' := v') hn hn' w
    have hcc : (v == v' && decide (n = n') && (b == b')) = !c := by
      rw [← hc, Bool.eq_iff_iff]
      simp [and_assoc]
    rw [hcc] at he
    simp only [execOp, ho, e1, e2, AV.to_v, Sem.run_bind, hg, Result.andThen_ok, binOp, Op.equal, Op.maxDepth, he]
    simp
end
end Go.Proofs.Ytnppgaohfegloaa
