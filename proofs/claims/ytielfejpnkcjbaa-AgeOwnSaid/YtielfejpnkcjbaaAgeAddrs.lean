/- Made slices; lists of addresses copied one by one. -/
import Derived.Test.YtielfejpnkcjbaaAgeSame
import Derived.Laws.MakeOwn
set_option linter.unusedVariables false
set_option linter.unusedSimpArgs false
namespace Go.Proofs.Ytielfejpnkcjbaa.Sl
/-- 'make([]T, l, c)'. -/
theorem s_makeSlice {P : Program} {o : Oper} {ρ : Operand → Value} {h : Heap} {K' : Value → Heap → Prop} {t e sz l c : Nat} {x y : Operand} {k k' : IntKind} (ho : o.op = .makeSlice t x y) (hu : P.underlying t = some (.slice e)) (hi : infoOk P e sz = true) (hx : ρ x = .int k (l : Nat)) (hy : ρ y = .int k' (c : Nat)) (hlc : l ≤ c) (hc : c ≤ 1000000)
    (kk : ∀ b cells, h b = none → cells.size = c * sz → K' (.slice (some ⟨b, 0, none⟩) l c) (h.set b (.cells cells e))) : SOp P o ρ h K' := by
  obtain ⟨i, z, hi, hz, hs, hz1, hb⟩ := infoOk_spec hi
  refine sop_alloc_at (obj := .cells (madeCells z.cells (c * i.size)) e) (vf := fun b => .slice (some ⟨b, 0, none⟩) l c) (fun w _ => ?_) (fun b hb => kk b _ hb (by rw [size_madeCells, hs]))
  have hm : i.bytes * c ≤ 4096 * 1000000 := Nat.mul_le_mul hb hc
  have hm' : (i.bytes : Int) * (c : Int) ≤ 281474976710656 := by
    have : ((i.bytes * c : Nat) : Int) ≤ ((4096 * 1000000 : Nat) : Int) := Int.ofNat_le.2 hm
    rw [Int.natCast_mul] at this
    omega
  have := run_make (P := P) w t e i z hu hi hz k k' (l : Int) (c : Int) (by omega) (by omega) hm' (by omega)
  simp only [execOp, ho, hx, hy, this, Sem.run_bind, Sem.run_map, Result.andThen_ok, Sem.run_pure, Int.toNat_natCast]
end Go.Proofs.Ytielfejpnkcjbaa.Sl
namespace Go.Proofs.Ytielfejpnkcjbaa
open Sl
theorem addrs_ok {h : Heap} {v : Value} (xs : List Int) (hc : Cells h 1 v xs.length (xs.map (.int .u32))) (hn : xs.length ≤ 1000000) :
    SCalls Try.prog 21 #[v] h (fun r h' => h.le h' ∧ Own h' 23 1 r xs.length (xs.map (.int .u32)) ∧ ∀ b, blockOf r = some b → h b = none) := by
  refine s_enter Try.func21 rfl (by rw [Try.ntmps21]; simp) ?_
  rw [Try.ntmps21]
  obtain ⟨a, c, rfl⟩ := hc.form
  generalize hT : T0 #[.slice a xs.length c] = T
  have h0 : T 0 = .slice a xs.length c := by rw [← hT]; rfl
  clear hT
  repeat refine s_seq ?_
  refine s_region ?_
  refine w_pv rfl dC (want_none rfl) (p_val evA) ?_
  refine w_nil ?_
  repeat refine s_seq ?_
  refine s_region ?_
  refine w_pv rfl dC (want_none rfl) (p_val evA) ?_
  refine w_rd rfl dC (want_none rfl) (r_len_slice rfl Try.underlying53 evA) ?_
  refine w_ac rfl dC (want_none rfl) (s_makeSlice (l := 0) (sz := 1) rfl Try.underlying53 kR evA evA (Nat.zero_le _) hn ?_); intro b0 cells hb0 hcells
  refine w_pv rfl dC (want_none rfl) (p_val evA) ?_
  refine w_nil ?_
  repeat refine s_seq ?_
  refine s_region ?_
  refine w_pv rfl dC (want_none rfl) (p_val evA) ?_
  refine w_nil ?_
  have hle := Heap.le_set (.cells cells 23 (0, 0)) hb0
  have hown : Own (h.set b0 (.cells cells 23 (0, 0))) 23 1 (.slice (some ⟨b0, 0, none⟩) 0 xs.length) 0 [] := .at_ (Heap.set_same _ _ _) rfl (Nat.zero_le _) (by omega) (by simp)
  generalize (h.set b0 (.cells cells 23 (0, 0))) = hx at hle hown ⊢
  refine (s_block (s_loop (fun m T h' => ∃ (i : Nat) (v : Value), m = xs.length - i ∧ i ≤ xs.length ∧ h.le h' ∧ Own h' 23 1 v i ((xs.map (Value.int .u32)).take i) ∧ (∀ b, blockOf v = some b → h b = none) ∧ T 0 = .slice a xs.length c ∧ T 3 = v ∧ T 4 = .int .i64 (i : Nat)) (n0 := xs.length)
    ⟨0, _, by omega, by omega, hle, hown, fun b e => (by cases e; exact hb0), slA, by simp only [pval, ev, upd, binVal, intBin, Option.map_some, ↓reduceIte, reduceCtorEq, Nat.reduceEqDiff, Nat.reduceBEq, List.map_toArray, List.map_cons, List.map_nil, cond_true, cond_false, decide_true, decide_false, Bool.not_true, Bool.not_false, Bool.true_and, Bool.false_and, Bool.and_true, Bool.and_false, beq_self_eq_true, bne_self_eq_false, List.getElem_toArray, List.getElem_cons_succ, List.getElem_cons_zero, *] <;> rfl, by simp only [pval, ev, upd, binVal, intBin, Option.map_some, ↓reduceIte, reduceCtorEq, Nat.reduceEqDiff, Nat.reduceBEq, List.map_toArray, List.map_cons, List.map_nil, cond_true, cond_false, decide_true, decide_false, Bool.not_true, Bool.not_false, Bool.true_and, Bool.false_and, Bool.and_true, Bool.and_false, beq_self_eq_true, bne_self_eq_false, List.getElem_toArray, List.getElem_cons_succ, List.getElem_cons_zero, *] <;> rfl⟩ ?_))
  clear h0 T hle hown
  rintro m T h' ⟨i, v, rfl, hi, hle, hown, hnew, h0, h3, h4⟩
  by_cases hlt : i < xs.length
  · have e1 : decide ((i : Int) < (xs.length : Int)) = true := decide_eq_true (by omega)
    have hw3 : IntKind.i64.wrap ((i : Int) + 1) = ((i + 1 : Nat) : Int) := wrap64_nat _ _ (by omega) (by omega)
    obtain ⟨b1, o1, k1, f1, t1, z1, q1, hb1, hg1⟩ := (hc.le hle).get hlt
    cases q1
    obtain ⟨x, hxi⟩ : ∃ x, xs[i]? = some x := ⟨_, List.getElem?_eq_getElem hlt⟩
    have g1 : f1[o1 + i * 1]? = some (.int .u32 x) := by have := hg1 0 (by omega); simpa [hxi] using this
    clear hg1
    have hii : (0 : Int) ≤ (i : Int) := by omega
    have hi1 : (i : Int) < (xs.length : Int) := by omega
    repeat refine s_seq ?_
    refine s_region ?_
    refine w_pv rfl dC (want_none rfl) (p_val evA) ?_
    refine w_pv rfl dC (want_none rfl) (p_val evA) ?_
    refine w_rd rfl dC (want_none rfl) (r_len_slice rfl Try.underlying53 evA) ?_
    refine w_pv rfl dC (want_none rfl) (p_val evA) ?_
    refine w_nil ?_
    repeat refine s_seq ?_
    refine s_cond (t := true) slA ?_
    repeat refine s_seq ?_
    refine s_skip ?_
    repeat refine s_seq ?_
    refine s_block ?_
    repeat refine s_seq ?_
    refine s_region ?_
    refine w_pv rfl dC (want_none rfl) (p_val evA) ?_
    refine w_pv rfl dC (want_none rfl) (p_val evA) ?_
    refine w_pv rfl dC (want_none rfl) (p_val evA) ?_
    refine w_pv rfl dC (want_none rfl) (p_indexAddr (sz := 1) rfl Try.underlying53 kR kR evA evA hii hi1) ?_
    refine w_rd rfl dC (want_none rfl) (r_load1 rfl Try.underlying23 rfl evA hpA ceA) ?_
    refine w_al rfl dC (want_none rfl) (a_buildSlice1 (sz := 1) rfl Try.underlying53 evA kR ceA (by decide) (by decide)) ?_
    intro b19 hb19
    have hle19 := Heap.le_set (.cells #[.int .u32 x] 23 (0, 0)) hb19; refine w_ac rfl dC (want_none rfl) (s_append (sz := 1) rfl Try.underlying53 Try.underlying53 kR evA evA (hown.le hle19) (.at_ (cs := [.int .u32 x]) (Heap.set_same _ _ _) rfl (Nat.le_refl _) rfl) (by simp [Value.oneCell']) (by omega) ?_); intro v' h2 own' grew
    refine w_pv rfl dC (want_none rfl) (p_val evA) ?_
    refine w_nil ?_
    have hle2 : h.le h2 := fun q o e => grew.same q o (hle19 q o (hle q o e)) fun e1 => by have := hnew q e1.symm; rw [this] at e; cases e
    have htk : (xs.map (Value.int .u32)).take i ++ [.int .u32 x] = (xs.map (Value.int .u32)).take (i + 1) := by
      rw [List.take_add_one]; simp [hxi]
    rw [htk] at own'
    have hnew2 : ∀ b, blockOf v' = some b → h b = none := fun b e => by
      rcases grew.blk with e1 | ⟨b', e1, e2⟩
      · exact hnew b (by rw [← e1]; exact e)
      · rw [e] at e1; cases e1
        cases e3 : h b with
        | none => rfl
        | some o => exact absurd ((hle19 b o (hle b o e3)).symm.trans e2) (by simp)
    clear hxi htk
    repeat refine s_seq ?_
    refine s_region ?_
    refine w_pv rfl dC (want_none rfl) (p_val evA) ?_
    refine w_pv rfl dC (want_none rfl) (p_val evA) ?_
    refine w_pv rfl dC (want_none rfl) (p_val evA) ?_
    refine w_nil ?_
    exact ⟨xs.length - (i + 1), by omega, i + 1, v', rfl, by omega, hle2, own', hnew2, slA, slA, slA⟩
  · have hin : i = xs.length := by omega
    have e1 : decide ((i : Int) < (xs.length : Int)) = false := decide_eq_false (by omega)
    rw [hin, List.take_of_length_le (by simp)] at hown
    clear hin
    repeat refine s_seq ?_
    refine s_region ?_
    refine w_pv rfl dC (want_none rfl) (p_val evA) ?_
    refine w_pv rfl dC (want_none rfl) (p_val evA) ?_
    refine w_rd rfl dC (want_none rfl) (r_len_slice rfl Try.underlying53 evA) ?_
    refine w_pv rfl dC (want_none rfl) (p_val evA) ?_
    refine w_nil ?_
    repeat refine s_seq ?_
    refine s_cond (t := false) slA ?_
    repeat refine s_seq ?_
    refine s_exit ?_
    repeat refine s_seq ?_
    refine s_region ?_
    refine w_pv rfl dC (want_none rfl) (p_val evA) ?_
    refine w_pv rfl dC (want_none rfl) (p_val evA) ?_
    refine w_nil ?_
    exact s_ret ⟨_, res_one rfl rfl, hle, by simp only [pval, ev, upd, binVal, intBin, Option.map_some, ↓reduceIte, reduceCtorEq, Nat.reduceEqDiff, Nat.reduceBEq, List.map_toArray, List.map_cons, List.map_nil, cond_true, cond_false, decide_true, decide_false, Bool.not_true, Bool.not_false, Bool.true_and, Bool.false_and, Bool.and_true, Bool.and_false, beq_self_eq_true, bne_self_eq_false, List.getElem_toArray, List.getElem_cons_succ, List.getElem_cons_zero, *] <;> exact hown, fun b e => hnew b (by simp only [pval, ev, upd, binVal, intBin, Option.map_some, ↓reduceIte, reduceCtorEq, Nat.reduceEqDiff, Nat.reduceBEq, List.map_toArray, List.map_cons, List.map_nil, cond_true, cond_false, decide_true, decide_false, Bool.not_true, Bool.not_false, Bool.true_and, Bool.false_and, Bool.and_true, Bool.and_false, beq_self_eq_true, bne_self_eq_false, List.getElem_toArray, List.getElem_cons_succ, List.getElem_cons_zero, *] at e; exact e)⟩
end Go.Proofs.Ytielfejpnkcjbaa
