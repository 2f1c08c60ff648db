/- The order of what was heard. -/
import Derived.Test.YtielfejpnkcjbaaAge
import Derived.Test.YtielfejpnkcjbaaCmp
import Derived.Test.YtielfejpnkcjbaaLits
set_option linter.unusedVariables false
set_option linter.unusedSimpArgs false
namespace Go.Proofs.Ytielfejpnkcjbaa
open Sl
def cmpT (a b : ThK) : Int := orI [cmpI a.1.1 b.1.1, cmpI a.1.2.1 b.1.2.1, cmpI a.2.2 b.2.2, cmpI a.2.1 b.2.1, cmpI a.1.2.2 b.1.2.2]
theorem compare_ok (a b : ThK) (h : Heap) : SCalls Try.prog 49 #[thV a, thV b] h (fun r h' => h.le h' ∧ r = .int .i64 (cmpT a b)) := by
  refine s_enter Try.func49 rfl (by rw [Try.ntmps49]; simp) ?_
  rw [Try.ntmps49]
  generalize hT : T0 #[thV a, thV b] = T
  have h0 : T 0 = .agg #[.int .i64 a.1.1, .int .i64 a.1.2.1, .int .u32 a.1.2.2, .int .u32 a.2.1, .int .u32 a.2.2] := by rw [← hT]; rfl
  have h1 : T 1 = .agg #[.int .i64 b.1.1, .int .i64 b.1.2.1, .int .u32 b.1.2.2, .int .u32 b.2.1, .int .u32 b.2.2] := by rw [← hT]; rfl
  clear hT
  repeat refine s_seq ?_
  refine s_region ?_
  refine w_al rfl dC (want_none rfl) (a_boxN rfl evA) ?_
  intro b2 hb2
  refine w_al rfl dC (want_none rfl) (a_boxN rfl evA) ?_
  intro b3 hb3
  have hne3_2 : b3 ≠ b2 := by rintro rfl; first | (simp [Heap.set] at hb3; done) | (simp [Heap.set] at hb3; split at hb3 <;> simp at hb3; done) | (simp [Heap.set] at hb3; (repeat' (split at hb3)) <;> simp_all)
  have hne2_3 := hne3_2.symm
  refine w_pv rfl dC (want_none rfl) (p_val evA) ?_
  refine w_nil ?_
  refine genH fun h2 hh => ?_
  have hb2v : h2 b2 = some (.cells #[.int .i64 a.1.1, .int .i64 a.1.2.1, .int .u32 a.1.2.2, .int .u32 a.2.1, .int .u32 a.2.2] 57 (0, 0)) := by rw [hh, Heap.set_other _ _ hne2_3]; exact Heap.set_same _ _ _
  have hb3v : h2 b3 = some (.cells #[.int .i64 b.1.1, .int .i64 b.1.2.1, .int .u32 b.1.2.2, .int .u32 b.2.1, .int .u32 b.2.2] 57 (0, 0)) := by rw [hh]; exact Heap.set_same _ _ _
  have hle : h.le h2 := by rw [hh]; exact Heap.le_trans (Heap.le_set _ hb2) (Heap.le_set _ hb3)
  clear hh
  repeat refine s_seq ?_
  refine s_draw [(0, true), (1, true), (2, true), (3, true), (5, true), (6, true), (7, true), (8, true), (10, true), (11, true), (12, true), (13, true), (14, true), (15, true), (17, true), (18, true), (19, true), (20, true), (21, true), (22, true), (24, true), (25, true), (26, true), (27, true), (4, true), (9, true), (16, true), (23, true), (28, true), (29, true), (30, true), (31, true)] [] [28, 29, 30] rfl kR kR ?_
  refine d_pv rfl rfl dC rfl rfl (want_none rfl) (p_fieldAddr (k := 0) rfl evA kR) ?_
  refine d_rd [_] rfl rfl dC rfl rfl (want_none rfl) (r_load1 rfl Try.underlying3 rfl evA (restr1 hpA) ceA) ?_
  refine d_pv rfl rfl dC rfl rfl (want_none rfl) (p_fieldAddr (k := 0) rfl evA kR) ?_
  refine d_rd [_] rfl rfl dC rfl rfl (want_none rfl) (r_load1 rfl Try.underlying3 rfl evA (restr1 hpA) ceA) ?_
  refine d_pv rfl rfl dC rfl rfl (want_none rfl) (p_fieldAddr (k := 1) rfl evA kR) ?_
  refine d_rd [_] rfl rfl dC rfl rfl (want_none rfl) (r_load1 rfl Try.underlying3 rfl evA (restr1 hpA) ceA) ?_
  refine d_pv rfl rfl dC rfl rfl (want_none rfl) (p_fieldAddr (k := 1) rfl evA kR) ?_
  refine d_rd [_] rfl rfl dC rfl rfl (want_none rfl) (r_load1 rfl Try.underlying3 rfl evA (restr1 hpA) ceA) ?_
  refine d_pv rfl rfl dC rfl rfl (want_none rfl) (p_fieldAddr (k := 3) rfl evA kR) ?_
  refine d_pv rfl rfl dC rfl rfl (want_none rfl) (p_fieldAddr (k := 1) rfl evA kR) ?_
  refine d_rd [_] rfl rfl dC rfl rfl (want_none rfl) (r_load1 rfl Try.underlying23 rfl evA (restr1 hpA) ceA) ?_
  refine d_pv rfl rfl dC rfl rfl (want_none rfl) (p_fieldAddr (k := 3) rfl evA kR) ?_
  refine d_pv rfl rfl dC rfl rfl (want_none rfl) (p_fieldAddr (k := 1) rfl evA kR) ?_
  refine d_rd [_] rfl rfl dC rfl rfl (want_none rfl) (r_load1 rfl Try.underlying23 rfl evA (restr1 hpA) ceA) ?_
  refine d_pv rfl rfl dC rfl rfl (want_none rfl) (p_fieldAddr (k := 3) rfl evA kR) ?_
  refine d_pv rfl rfl dC rfl rfl (want_none rfl) (p_fieldAddr (k := 0) rfl evA kR) ?_
  refine d_rd [_] rfl rfl dC rfl rfl (want_none rfl) (r_load1 rfl Try.underlying23 rfl evA (restr1 hpA) ceA) ?_
  refine d_pv rfl rfl dC rfl rfl (want_none rfl) (p_fieldAddr (k := 3) rfl evA kR) ?_
  refine d_pv rfl rfl dC rfl rfl (want_none rfl) (p_fieldAddr (k := 0) rfl evA kR) ?_
  refine d_rd [_] rfl rfl dC rfl rfl (want_none rfl) (r_load1 rfl Try.underlying23 rfl evA (restr1 hpA) ceA) ?_
  refine d_pv rfl rfl dC rfl rfl (want_none rfl) (p_fieldAddr (k := 2) rfl evA kR) ?_
  refine d_rd [_] rfl rfl dC rfl rfl (want_none rfl) (r_load1 rfl Try.underlying23 rfl evA (restr1 hpA) ceA) ?_
  refine d_pv rfl rfl dC rfl rfl (want_none rfl) (p_fieldAddr (k := 2) rfl evA kR) ?_
  refine d_rd [_] rfl rfl dC rfl rfl (want_none rfl) (r_load1 rfl Try.underlying23 rfl evA (restr1 hpA) ceA) ?_
  refine d_qac rfl rfl dC (by decide) rfl (want_none rfl) (s_call rfl rfl Try.func59 kR kR evA ?_); refine (cmpInt_ok _ _ _).mono ?_; rintro _ h2 ⟨rfl, rfl⟩; refine ⟨(fun _ _ h => h), ?_⟩
  refine d_qac rfl rfl dC (by decide) rfl (want_none rfl) (s_call rfl rfl Try.func59 kR kR evA ?_); refine (cmpInt_ok _ _ _).mono ?_; rintro _ h2 ⟨rfl, rfl⟩; refine ⟨(fun _ _ h => h), ?_⟩
  refine d_qac rfl rfl dC (by decide) rfl (want_none rfl) (s_call rfl rfl Try.func58 kR kR evA ?_); refine (cmpAddr_ok _ _ _).mono ?_; rintro _ h2 ⟨rfl, rfl⟩; refine ⟨(fun _ _ h => h), ?_⟩
  refine d_qac rfl rfl dC (by decide) rfl (want_none rfl) (s_call rfl rfl Try.func58 kR kR evA ?_); refine (cmpAddr_ok _ _ _).mono ?_; rintro _ h2 ⟨rfl, rfl⟩; refine ⟨(fun _ _ h => h), ?_⟩
  refine d_lac rfl rfl dC (by decide) rfl (want_none rfl) (s_call rfl rfl Try.func58 kR kR evA ?_); refine (cmpAddr_ok _ _ _).mono ?_; rintro _ h2 ⟨rfl, rfl⟩
  refine d_lal rfl rfl dC (by decide) rfl (want_none rfl) (a_buildSliceN (vs := [_, _, _, _, _]) rfl Try.underlying28 kR (by simp only [pval, ev, upd, binVal, intBin, Option.map_some, ↓reduceIte, reduceCtorEq, Nat.reduceEqDiff, Nat.reduceBEq, List.map_toArray, List.map_cons, List.map_nil, cond_true, cond_false, decide_true, decide_false, Bool.not_true, Bool.not_false, Bool.true_and, Bool.false_and, Bool.and_true, Bool.and_false, beq_self_eq_true, bne_self_eq_false, List.getElem_toArray, List.getElem_cons_succ, List.getElem_cons_zero, *] <;> rfl) rfl (by simp [Value.cells]) (by decide) (by decide)) ?_
  intro b34 hb34
  have hle34 := Heap.le_set (.cells #[.int .i64 (cmpI a.1.1 b.1.1), .int .i64 (cmpI a.1.2.1 b.1.2.1), .int .i64 (cmpI a.2.2 b.2.2), .int .i64 (cmpI a.2.1 b.2.1), .int .i64 (cmpI a.1.2.2 b.1.2.2)] 3 (0, 0)) hb34; refine d_lac rfl rfl dC (by decide) rfl (want_none rfl) (s_call rfl rfl Try.func57 kR kR evA ?_); refine (or_ok [cmpI a.1.1 b.1.1, cmpI a.1.2.1 b.1.2.1, cmpI a.2.2 b.2.2, cmpI a.2.1 b.2.1, cmpI a.1.2.2 b.1.2.2] (.at_ (Heap.set_same _ _ _) rfl (Nat.le_refl _) rfl) (by simp)).mono ?_; rintro _ h4 ⟨rfl, rfl⟩
  refine d_pv rfl rfl dC rfl rfl (want_none rfl) (p_val evA) ?_
  refine d_nil ?_
  exact s_ret ⟨_, res_one rfl rfl, Heap.le_trans hle hle34, by simp only [pval, ev, upd, binVal, intBin, Option.map_some, ↓reduceIte, reduceCtorEq, Nat.reduceEqDiff, Nat.reduceBEq, List.map_toArray, List.map_cons, List.map_nil, cond_true, cond_false, decide_true, decide_false, Bool.not_true, Bool.not_false, Bool.true_and, Bool.false_and, Bool.and_true, Bool.and_false, beq_self_eq_true, bne_self_eq_false, List.getElem_toArray, List.getElem_cons_succ, List.getElem_cons_zero]; rfl⟩
theorem less_ok (a b : ThK) (h : Heap) : SCalls Try.prog 28 #[thV a, thV b] h (fun r h' => h.le h' ∧ r = .bool (decide (cmpT a b < 0))) := by
  refine s_enter Try.func28 rfl (by rw [Try.ntmps28]; simp) ?_
  rw [Try.ntmps28]
  generalize hT : T0 #[thV a, thV b] = T
  have h0 : T 0 = .agg #[.int .i64 a.1.1, .int .i64 a.1.2.1, .int .u32 a.1.2.2, .int .u32 a.2.1, .int .u32 a.2.2] := by rw [← hT]; rfl
  have h1 : T 1 = .agg #[.int .i64 b.1.1, .int .i64 b.1.2.1, .int .u32 b.1.2.2, .int .u32 b.2.1, .int .u32 b.2.2] := by rw [← hT]; rfl
  clear hT
  repeat refine s_seq ?_
  refine s_region ?_
  refine w_al rfl dC (want_none rfl) (a_boxN rfl evA) ?_
  intro b2 hb2
  refine w_al rfl dC (want_none rfl) (a_boxN rfl evA) ?_
  intro b3 hb3
  have hne3_2 : b3 ≠ b2 := by rintro rfl; first | (simp [Heap.set] at hb3; done) | (simp [Heap.set] at hb3; split at hb3 <;> simp at hb3; done) | (simp [Heap.set] at hb3; (repeat' (split at hb3)) <;> simp_all)
  have hne2_3 := hne3_2.symm
  refine w_pv rfl dC (want_none rfl) (p_val evA) ?_
  refine w_nil ?_
  refine genH fun h2 hh => ?_
  have hb2v : h2 b2 = some (.cells #[.int .i64 a.1.1, .int .i64 a.1.2.1, .int .u32 a.1.2.2, .int .u32 a.2.1, .int .u32 a.2.2] 57 (0, 0)) := by rw [hh, Heap.set_other _ _ hne2_3]; exact Heap.set_same _ _ _
  have hb3v : h2 b3 = some (.cells #[.int .i64 b.1.1, .int .i64 b.1.2.1, .int .u32 b.1.2.2, .int .u32 b.2.1, .int .u32 b.2.2] 57 (0, 0)) := by rw [hh]; exact Heap.set_same _ _ _
  have hle : h.le h2 := by rw [hh]; exact Heap.le_trans (Heap.le_set _ hb2) (Heap.le_set _ hb3)
  clear hh
  repeat refine s_seq ?_
  refine s_region ?_
  refine w_rd rfl dC (want_none rfl) (r_loadN (n := 5) rfl Try.underlying57 rfl evA hpA kR szA) ?_
  refine w_rd rfl dC (want_none rfl) (r_loadN (n := 5) rfl Try.underlying57 rfl evA hpA kR szA) ?_
  refine w_ac rfl dC (want_none rfl) (s_call rfl rfl Try.func49 kR kR evA ?_); refine (compare_ok a b _).mono ?_; rintro _ h3 ⟨hle3, rfl⟩
  refine w_pv rfl dC (want_none rfl) (p_val evA) ?_
  refine w_pv rfl dC (want_none rfl) (p_val evA) ?_
  refine w_nil ?_
  exact s_ret ⟨_, res_one rfl rfl, Heap.le_trans hle hle3, by simp only [pval, ev, upd, binVal, intBin, Option.map_some, ↓reduceIte, reduceCtorEq, Nat.reduceEqDiff, Nat.reduceBEq, List.map_toArray, List.map_cons, List.map_nil, cond_true, cond_false, decide_true, decide_false, Bool.not_true, Bool.not_false, Bool.true_and, Bool.false_and, Bool.and_true, Bool.and_false, beq_self_eq_true, bne_self_eq_false, List.getElem_toArray, List.getElem_cons_succ, List.getElem_cons_zero]⟩
end Go.Proofs.Ytielfejpnkcjbaa
