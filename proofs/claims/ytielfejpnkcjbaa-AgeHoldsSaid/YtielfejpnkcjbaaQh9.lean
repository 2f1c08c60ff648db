import Derived.Test.YtielfejpnkcjbaaQh8
import Derived.Test.YtielfejpnkcjbaaProg
import Derived.Sort.LotD4
/- The order of what was heard. -/
set_option linter.unusedVariables false
set_option linter.unusedSimpArgs false
namespace Go.Proofs.Ytielfejpnkcjbaa
open Sl
def cmpT (a b : ThK) : Int := orI [cmpI a.1.1 b.1.1, cmpI a.1.2.1 b.1.2.1, cmpI a.2.2 b.2.2, cmpI a.2.1 b.2.1, cmpI a.1.2.2 b.1.2.2]
theorem compare_ok (a b : ThK) (h : Heap) : SCalls Try.prog 49 #[thV a, thV b] h (fun r h' => h.le h' ∧ r = .int .i64 (cmpT a b)) := by
  refine s_enter Try.func49 rfl (by rw [Try.ntmps49]; simp) ?_
  rw [Try.ntmps49]
  generalize hT : T0 #[thV a, thV b] = T
  have h0 : T 0 = .agg #[.int .i64 a.1.1, .int .i64 a.1.2.1, .int .u32 a.1.2.2, .int .u32 a.2.1, .int .u32 a.2.2] := by rw [← hT]; rfl
  have h1 : T 1 = .agg #[.int .i64 b.1.1, .int .i64 b.1.2.1, .int .u32 b.1.2.2, .int .u32 b.2.1, .int .u32 b.2.2] := by rw [← hT]; rfl
  clear hT
  repeat refine s_seq ?_
  refine s_region ?_
  refine w_al rfl dC (want_none rfl) (a_boxN rfl evA) ?_
  intro b2 hb2
  refine w_al rfl dC (want_none rfl) (a_boxN rfl evA) ?_
  intro b3 hb3
  have hne3_2 : b3 ≠ b2 := by rintro rfl; first | (simp [Heap.set] at hb3; done) | (simp [Heap.set] at hb3; split at hb3 <;> simp at hb3; done) | (simp [Heap.set] at hb3; (repeat' (split at hb3)) <;> simp_all)
  have hne2_3 := hne3_2.symm
  refine w_pv rfl dC (want_none rfl) (p_val evA) ?_
  refine w_nil ?_
  refine genH fun h2 hh => ?_
  have hb2v : h2 b2 = some (.cells #[.int .i64 a.1.1, .int .i64 a.1.2.1, .int .u32 a.1.2.2, .int .u32 a.2.1, .int .u32 a.2.2] 57 (0, 0)) := by rw [hh, Heap.set_other _ _ hne2_3]; exact Heap.set_same _ _ _
  have hb3v : h2 b3 = some (.cells #[.int .i64 b.1.1, .int .i64 b.1.2.1, .int .u32 b.1.2.2, .int .u32 b.2.1, .int .u32 b.2.2] 57 (0, 0)) := by rw [hh]; exact Heap.set_same _ _ _
  have hle : h.le h2 := by rw [hh]; exact Heap.le_trans (Heap.le_set _ hb2) (Heap.le_set _ hb3)
  clear hh
  repeat refine s_seq ?_
  refine s_draw [(0, true), (1, true), (2, true), (3, true), (5, true), (6, true), (7, true), (8, true), (10, true), (11, true), (12, true), (13, true), (14, true), (15, true), (17, true), (18, true), (19, true), (20, true), (21, true), (22, true), (24, true), (25, true), (26, true), (27, true), (4, true), (9, true), (16, true), (23, true), (28, true), (29, true), (30, true), (31, true)] [] [28, 29, 30] rfl kR kR ?_
  refine d_pv rfl rfl dC rfl rfl (want_none rfl) (p_fieldAddr (k := 0) rfl evA kR) ?_
  refine d_rd [_] rfl rfl dC rfl rfl (want_none rfl) (r_load1 rfl Try.underlying3 rfl evA (restr1 hpA) ceA) ?_
  refine d_pv rfl rfl dC rfl rfl (want_none rfl) (p_fieldAddr (k := 0) rfl evA kR) ?_
  refine d_rd [_] rfl rfl dC rfl rfl (want_none rfl) (r_load1 rfl Try.underlying3 rfl evA (restr1 hpA) ceA) ?_
  refine d_pv rfl rfl dC rfl rfl (want_none rfl) (p_fieldAddr (k := 1) rfl evA kR) ?_
  refine d_rd [_] rfl rfl dC rfl rfl (want_none rfl) (r_load1 rfl Try.underlying3 rfl evA (restr1 hpA) ceA) ?_
  refine d_pv rfl rfl dC rfl rfl (want_none rfl) (p_fieldAddr (k := 1) rfl evA kR) ?_
  refine d_rd [_] rfl rfl dC rfl rfl (want_none rfl) (r_load1 rfl Try.underlying3 rfl evA (restr1 hpA) ceA) ?_
  refine d_pv rfl rfl dC rfl rfl (want_none rfl) (p_fieldAddr (k := 3) rfl evA kR) ?_
  refine d_pv rfl rfl dC rfl rfl (want_none rfl) (p_fieldAddr (k := 1) rfl evA kR) ?_
  refine d_rd [_] rfl rfl dC rfl rfl (want_none rfl) (r_load1 rfl Try.underlying23 rfl evA (restr1 hpA) ceA) ?_
  refine d_pv rfl rfl dC rfl rfl (want_none rfl) (p_fieldAddr (k := 3) rfl evA kR) ?_
  refine d_pv rfl rfl dC rfl rfl (want_none rfl) (p_fieldAddr (k := 1) rfl evA kR) ?_
  refine d_rd [_] rfl rfl dC rfl rfl (want_none rfl) (r_load1 rfl Try.underlying23 rfl evA (restr1 hpA) ceA) ?_
  refine d_pv rfl rfl dC rfl rfl (want_none rfl) (p_fieldAddr (k := 3) rfl evA kR) ?_
  refine d_pv rfl rfl dC rfl rfl (want_none rfl) (p_fieldAddr (k := 0) rfl evA kR) ?_
  refine d_rd [_] rfl rfl dC rfl rfl (want_none rfl) (r_load1 rfl Try.underlying23 rfl evA (restr1 hpA) ceA) ?_
  refine d_pv rfl rfl dC rfl rfl (want_none rfl) (p_fieldAddr (k := 3) rfl evA kR) ?_
  refine d_pv rfl rfl dC rfl rfl (want_none rfl) (p_fieldAddr (k := 0) rfl evA kR) ?_
  refine d_rd [_] rfl rfl dC rfl rfl (want_none rfl) (r_load1 rfl Try.underlying23 rfl evA (restr1 hpA) ceA) ?_
  refine d_pv rfl rfl dC rfl rfl (want_none rfl) (p_fieldAddr (k := 2) rfl evA kR) ?_
  refine d_rd [_] rfl rfl dC rfl rfl (want_none rfl) (r_load1 rfl Try.underlying23 rfl evA (restr1 hpA) ceA) ?_
  refine d_pv rfl rfl dC rfl rfl (want_none rfl) (p_fieldAddr (k := 2) rfl evA kR) ?_
  refine d_rd [_] rfl rfl dC rfl rfl (want_none rfl) (r_load1 rfl Try.underlying23 rfl evA (restr1 hpA) ceA) ?_
  refine d_qac rfl rfl dC (by decide) rfl (want_none rfl) (s_call rfl rfl Try.func59 kR kR evA ?_); refine (cmpInt_ok _ _ _).mono ?_; rintro _ h2 ⟨rfl, rfl⟩; refine ⟨(fun _ _ h => h), ?_⟩
  refine d_qac rfl rfl dC (by decide) rfl (want_none rfl) (s_call rfl rfl Try.func59 kR kR evA ?_); refine (cmpInt_ok _ _ _).mono ?_; rintro _ h2 ⟨rfl, rfl⟩; refine ⟨(fun _ _ h => h), ?_⟩
  refine d_qac rfl rfl dC (by decide) rfl (want_none rfl) (s_call rfl rfl Try.func58 kR kR evA ?_); refine (cmpAddr_ok _ _ _).mono ?_; rintro _ h2 ⟨rfl, rfl⟩; refine ⟨(fun _ _ h => h), ?_⟩
  refine d_qac rfl rfl dC (by decide) rfl (want_none rfl) (s_call rfl rfl Try.func58 kR kR evA ?_); refine (cmpAddr_ok _ _ _).mono ?_; rintro _ h2 ⟨rfl, rfl⟩; refine ⟨(fun _ _ h => h), ?_⟩
  refine d_lac rfl rfl dC (by decide) rfl (want_none rfl) (s_call rfl rfl Try.func58 kR kR evA ?_); refine (cmpAddr_ok _ _ _).mono ?_; rintro _ h2 ⟨rfl, rfl⟩
  refine d_lal rfl rfl dC (by decide) rfl (want_none rfl) (a_buildSliceN (vs := [_, _, _, _, _]) rfl Try.underlying28 kR (by simp only [pval, ev, upd, binVal, intBin, Option.map_some, ↓reduceIte, reduceCtorEq, Nat.reduceEqDiff, Nat.reduceBEq, List.map_toArray, List.map_cons, List.map_nil, cond_true, cond_false, decide_true, decide_false, Bool.not_true, Bool.not_false, Bool.true_and, Bool.false_and, Bool.and_true, Bool.and_false, beq_self_eq_true, bne_self_eq_false, List.getElem_toArray, List.getElem_cons_succ, List.getElem_cons_zero, *] <;> rfl) rfl (by simp [Value.cells]) (by decide) (by decide)) ?_
  intro b34 hb34
  have hle34 := Heap.le_set (.cells #[.int .i64 (cmpI a.1.1 b.1.1), .int .i64 (cmpI a.1.2.1 b.1.2.1), .int .i64 (cmpI a.2.2 b.2.2), .int .i64 (cmpI a.2.1 b.2.1), .int .i64 (cmpI a.1.2.2 b.1.2.2)] 3 (0, 0)) hb34; refine d_lac rfl rfl dC (by decide) rfl (want_none rfl) (s_call rfl rfl Try.func57 kR kR evA ?_); refine (or_ok [cmpI a.1.1 b.1.1, cmpI a.1.2.1 b.1.2.1, cmpI a.2.2 b.2.2, cmpI a.2.1 b.2.1, cmpI a.1.2.2 b.1.2.2] (.at_ (Heap.set_same _ _ _) rfl (Nat.le_refl _) rfl) (by simp)).mono ?_; rintro _ h4 ⟨rfl, rfl⟩
  refine d_pv rfl rfl dC rfl rfl (want_none rfl) (p_val evA) ?_
  refine d_nil ?_
  exact s_ret ⟨_, res_one rfl rfl, Heap.le_trans hle hle34, by simp only [pval, ev, upd, binVal, intBin, Option.map_some, ↓reduceIte, reduceCtorEq, Nat.reduceEqDiff, Nat.reduceBEq, List.map_toArray, List.map_cons, List.map_nil, cond_true, cond_false, decide_true, decide_false, Bool.not_true, Bool.not_false, Bool.true_and, Bool.false_and, Bool.and_true, Bool.and_false, beq_self_eq_true, bne_self_eq_false, List.getElem_toArray, List.getElem_cons_succ, List.getElem_cons_zero]; rfl⟩
theorem less_ok (a b : ThK) (h : Heap) : SCalls Try.prog 28 #[thV a, thV b] h (fun r h' => h.le h' ∧ r = .bool (decide (cmpT a b < 0))) := by
  refine s_enter Try.func28 rfl (by rw [Try.ntmps28]; simp) ?_
  rw [Try.ntmps28]
  generalize hT : T0 #[thV a, thV b] = T
  have h0 : T 0 = .agg #[.int .i64 a.1.1, .int .i64 a.1.2.1, .int .u32 a.1.2.2, .int .u32 a.2.1, .int .u32 a.2.2] := by rw [← hT]; rfl
  have h1 : T 1 = .agg #[.int .i64 b.1.1, .int .i64 b.1.2.1, .int .u32 b.1.2.2, .int .u32 b.2.1, .int .u32 b.2.2] := by rw [← hT]; rfl
  clear hT
  repeat refine s_seq ?_
  refine s_region ?_
  refine w_al rfl dC (want_none rfl) (a_boxN rfl evA) ?_
  intro b2 hb2
  refine w_al rfl dC (want_none rfl) (a_boxN rfl evA) ?_
  intro b3 hb3
  have hne3_2 : b3 ≠ b2 := by rintro rfl; first | (simp [Heap.set] at hb3; done) | (simp [Heap.set] at hb3; split at hb3 <;> simp at hb3; done) | (simp [Heap.set] at hb3; (repeat' (split at hb3)) <;> simp_all)
  have hne2_3 := hne3_2.symm
  refine w_pv rfl dC (want_none rfl) (p_val evA) ?_
  refine w_nil ?_
  refine genH fun h2 hh => ?_
  have hb2v : h2 b2 = some (.cells #[.int .i64 a.1.1, .int .i64 a.1.2.1, .int .u32 a.1.2.2, .int .u32 a.2.1, .int .u32 a.2.2] 57 (0, 0)) := by rw [hh, Heap.set_other _ _ hne2_3]; exact Heap.set_same _ _ _
  have hb3v : h2 b3 = some (.cells #[.int .i64 b.1.1, .int .i64 b.1.2.1, .int .u32 b.1.2.2, .int .u32 b.2.1, .int .u32 b.2.2] 57 (0, 0)) := by rw [hh]; exact Heap.set_same _ _ _
  have hle : h.le h2 := by rw [hh]; exact Heap.le_trans (Heap.le_set _ hb2) (Heap.le_set _ hb3)
  clear hh
  repeat refine s_seq ?_
  refine s_region ?_
  refine w_rd rfl dC (want_none rfl) (r_loadN (n := 5) rfl Try.underlying57 rfl evA hpA kR szA) ?_
  refine w_rd rfl dC (want_none rfl) (r_loadN (n := 5) rfl Try.underlying57 rfl evA hpA kR szA) ?_
  refine w_ac rfl dC (want_none rfl) (s_call rfl rfl Try.func49 kR kR evA ?_); refine (compare_ok a b _).mono ?_; rintro _ h3 ⟨hle3, rfl⟩
  refine w_pv rfl dC (want_none rfl) (p_val evA) ?_
  refine w_pv rfl dC (want_none rfl) (p_val evA) ?_
  refine w_nil ?_
  exact s_ret ⟨_, res_one rfl rfl, Heap.le_trans hle hle3, by simp only [pval, ev, upd, binVal, intBin, Option.map_some, ↓reduceIte, reduceCtorEq, Nat.reduceEqDiff, Nat.reduceBEq, List.map_toArray, List.map_cons, List.map_nil, cond_true, cond_false, decide_true, decide_false, Bool.not_true, Bool.not_false, Bool.true_and, Bool.false_and, Bool.and_true, Bool.and_false, beq_self_eq_true, bne_self_eq_false, List.getElem_toArray, List.getElem_cons_succ, List.getElem_cons_zero]⟩
end Go.Proofs.Ytielfejpnkcjbaa

/- What chapter 15 begins with. -/
set_option linter.unusedVariables false
set_option linter.unusedSimpArgs false
namespace Go.Proofs.Ytielfejpnkcjbaa
open Sl
theorem TableAt.new (h : Heap) (p : Nat) (ty : TypeId) : TableAt (h.set p (.cells #[.map none] ty (0, 0))) (fun b => b = p) p [] :=
  ⟨⟨_, ty, Heap.set_same _ _ _, rfl, .inl ⟨rfl, rfl⟩⟩, fun b hb => by rw [hb, Heap.set_same]; simp⟩
theorem TableAt.le {h h' : Heap} {D : Nat → Prop} {p : Nat} {ts : List AT} (t : TableAt h D p ts) (hle : h.le h') : TableAt h' D p ts := by
  obtain ⟨mv, ty, hp, hDp, hmap⟩ := t.out
  refine ⟨⟨mv, ty, hle _ _ hp, hDp, hmap.imp id fun ⟨mb, rs, cl, e1, e2, e3, e4, e5⟩ => ⟨mb, rs, cl, e1, e2, ⟨hle _ _ e3.1, e3.2⟩, e4, fun r hr => (e5 r hr).only fun b o _ e _ => hle b o e⟩⟩, fun b hb => ?_⟩
  cases e : h b with
  | none => exact absurd e (t.dom b hb)
  | some o => rw [hle b o e]; simp
def m0 : MsgA := ⟨0, 0, 0, 0, 0, 5, 0, false, []⟩
def k0 : ThK := ((1, 0, 0), (0, 0))
theorem first15_ok (h : Heap) : SCalls Try.prog 20 #[] h (fun r h' => h.le h' ∧ r = .bool true) := by
  refine s_enter Try.func20 rfl (by rw [Try.ntmps20]; simp) ?_
  rw [Try.ntmps20]
  generalize hT : T0 #[] = T
  clear hT
  repeat refine s_seq ?_
  refine s_region ?_
  refine w_pv rfl dC (want_none rfl) (p_val evA) ?_
  refine w_nil ?_
  repeat refine s_seq ?_
  refine s_region ?_
  refine w_al rfl dC (want_none rfl) (a_allocZ (z := .agg #[.map none]) (zs := #[.map none]) rfl kR rfl) ?_
  intro b1 hb1
  refine w_nil ?_
  have t := TableAt.new h b1 60
  have chg : Chg (fun b => b = b1) (fun b => b = b1) h (h.set b1 (.cells #[.map none] 60 (0, 0))) := (Chg.refl _ _).le (Heap.le_set _ hb1)
  change SCode _ _ _ _ _ (h.set b1 (.cells #[.map none] 60 (0, 0)))
  generalize h.set b1 (.cells #[.map none] 60 (0, 0)) = hx at t chg ⊢
  have hk : (Value.agg #[.int .i64 1, .int .i64 0, .int .u32 0, .int .u32 0, .int .u32 0]) = thV k0 := rfl
  repeat refine s_seq ?_
  refine s_region ?_
  refine w_pv rfl dC (want_none rfl) (p_buildL (places := [(0, 1), (1, 1), (2, 1), (3, 2)]) (z := [.int .i64 0, .int .i64 0, .int .u32 0, .int .u32 0, .int .u32 0]) (cells := [_, .int .i64 0, .int .u32 0, .int .u32 0, .int .u32 0]) rfl evA kR kR (by rfl)) ?_
  refine w_al rfl dC (want_none rfl) (a_allocZ (z := .agg #[.int .i64 0, .int .i64 0, .int .u32 0, .int .u32 0, .int .u32 0]) (zs := #[.int .i64 0, .int .i64 0, .int .u32 0, .int .u32 0, .int .u32 0]) rfl kR rfl) ?_
  intro b2 hb2
  refine w_st rfl (want_none rfl) (s_storeN (n := 5) rfl evA evA ocA kR szA kR hpA szA ?_)
  refine w_nil ?_
  rw [set_set]
  refine genH fun h2 hh => ?_
  have hb2v : h2 b2 = some (.cells #[.int .i64 1, .int .i64 0, .int .u32 0, .int .u32 0, .int .u32 0] 57 (0, 0)) := by rw [hh]; exact Heap.set_same _ _ _
  have hle2 : hx.le h2 := by rw [hh]; exact Heap.le_set _ hb2
  clear hh
  have t2 := t.le hle2
  have chg2 := chg.le hle2
  have h2d : ¬ b2 = b1 := fun e => t.dom b1 rfl (by rw [← e]; exact hb2)
  clear t chg hle2 hb2
  repeat refine s_seq ?_
  refine s_region ?_
  refine w_rd rfl dC (want_none rfl) (r_loadN (n := 5) rfl Try.underlying57 rfl evA hpA kR szA) ?_
  refine w_pv rfl dC (want_none rfl) (p_buildL (places := [(0, 1), (1, 1), (2, 1), (3, 2), (5, 1), (6, 1), (7, 1), (8, 1)]) (z := [.int .i64 0, .int .u32 0, .int .u32 0, .int .u32 0, .int .u32 0, .int .i64 0, .int .i64 0, .bool false, .slice none 0 0]) (cells := [.int .i64 0, .int .u32 0, .int .u32 0, .int .u32 0, .int .u32 0, _, .int .i64 0, .bool false, .slice none 0 0]) rfl evA kR kR (by rfl)) ?_
  refine w_ac rfl dC (want_none rfl) (s_call rfl rfl Try.func22 kR kR evA ?_); refine (hear_ok k0 m0 (.slice none 0 0) t2 (by decide) (.zero none 0) (by decide) rfl (by intro _ b e; cases e)).mono ?_; rintro r h3 ⟨rfl, D3, chg3, t3⟩
  refine w_pv rfl dC (want_none rfl) (p_val evA) ?_
  refine w_nil ?_
  have hb2w := chg3.keep b2 _ h2d hb2v
  have hd3 : ¬ D3 b2 := fun hd => by
    rcases chg3.ext b2 hd with h8 | h8
    · exact h2d h8
    · rw [h8] at hb2v; cases hb2v
  replace t3 : TableAt h3 D3 b1 [⟨k0, 0, m0⟩] := t3
  repeat refine s_seq ?_
  refine s_cond (t := false) slA ?_
  repeat refine s_seq ?_
  refine s_skip ?_
  repeat refine s_seq ?_
  refine s_region ?_
  refine w_ac rfl dC (want_none rfl) (s_call rfl rfl Try.func23 kR kR evA ?_); refine (tick_ok t3 (by decide)).mono ?_; rintro r h4 ⟨rfl, chg4, t4⟩; replace t4 : TableAt h4 D3 b1 [⟨k0, 1, m0⟩] := t4
  refine w_nil ?_
  repeat refine s_seq ?_
  refine s_region ?_
  refine w_ac rfl dC (want_none rfl) (s_call rfl rfl Try.func23 kR kR evA ?_); refine (tick_ok t4 (by decide)).mono ?_; rintro r h5 ⟨rfl, chg5, t5⟩; replace t5 : TableAt h5 D3 b1 [⟨k0, 2, m0⟩] := t5
  refine w_nil ?_
  repeat refine s_seq ?_
  refine s_region ?_
  refine w_ac rfl dC (want_none rfl) (s_call rfl rfl Try.func23 kR kR evA ?_); refine (tick_ok t5 (by decide)).mono ?_; rintro r h6 ⟨rfl, chg6, t6⟩; replace t6 : TableAt h6 D3 b1 [⟨k0, 3, m0⟩] := t6
  refine w_nil ?_
  have chgA := ((chg2.trans chg3).trans chg4).trans (chg5.trans chg6)
  have hb2x := (chg4.trans (chg5.trans chg6)).keep b2 _ hd3 hb2w
  repeat refine s_seq ?_
  refine s_region ?_
  refine w_rd rfl dC (want_none rfl) (r_loadN (n := 5) rfl Try.underlying57 rfl evA hpA kR szA) ?_
  refine w_ac rfl dC (want_none rfl) (s_call rfl rfl Try.func24 kR kR evA ?_); refine (tget_ok k0 t6 ⟨k0, 3, m0⟩ (by simp) rfl (by intro y hy _; simpa using hy)).mono ?_; rintro r h7 ⟨hle7, sv, rfl, hc7, hn7, ho7⟩
  refine w_pv rfl dC (want_none rfl) (p_val evA) ?_
  refine w_pv rfl dC (want_none rfl) (p_val evA) ?_
  refine w_pv rfl dC (want_none rfl) (p_val evA) ?_
  refine w_al rfl dC (want_none rfl) (a_allocZ (z := .agg #[.int .i64 0, .int .i64 0, .int .u32 0, .int .u32 0, .int .u32 0, .int .i64 0, .int .i64 0, .int .u32 0, .int .u32 0, .int .u32 0, .int .u32 0, .int .i64 0, .int .i64 0, .bool false, .slice none 0 0]) (zs := #[.int .i64 0, .int .i64 0, .int .u32 0, .int .u32 0, .int .u32 0, .int .i64 0, .int .i64 0, .int .u32 0, .int .u32 0, .int .u32 0, .int .u32 0, .int .i64 0, .int .i64 0, .bool false, .slice none 0 0]) rfl kR rfl) ?_
  intro b3 hb3
  refine w_st rfl (want_none rfl) (s_storeN (n := 15) rfl evA evA ocA kR szA kR hpA szA ?_)
  refine w_pv rfl dC (want_none rfl) (p_val evA) ?_
  refine w_nil ?_
  rw [set_set]
  refine genH fun h8 hh => ?_
  have hb3v : h8 b3 = some (.cells #[.int .i64 1, .int .i64 0, .int .u32 0, .int .u32 0, .int .u32 0, .int .i64 3, .int .i64 0, .int .u32 0, .int .u32 0, .int .u32 0, .int .u32 0, .int .i64 5, .int .i64 0, .bool false, sv] 64 (0, 0)) := by rw [hh]; exact Heap.set_same _ _ _
  have hle8 : h7.le h8 := by rw [hh]; exact Heap.le_set _ hb3
  clear hh
  have t8 := (t6.le hle7).le hle8
  have chg8 := (chgA.le hle7).le hle8
  repeat refine s_seq ?_
  refine s_region ?_
  refine w_pv rfl dC (want_none rfl) (p_val evA) ?_
  refine w_pv rfl dC (want_none rfl) (p_val evA) ?_
  refine w_pv rfl dC (want_let rfl rfl evA) (p_fieldAddr (k := 5) rfl evA kR) ?_
  refine w_rd rfl dC (want_let rfl rfl evA) (r_load1 rfl Try.underlying3 rfl evA hpA ceA) ?_
  refine w_pv rfl dC (want_let rfl rfl evA) (p_val evA) ?_
  refine w_pv rfl dC (want_none rfl) (p_val evA) ?_
  refine w_pv rfl dC (want_none rfl) (p_val evA) ?_
  refine w_ac rfl dC (want_let rfl rfl evA) (s_call rfl rfl Try.func23 kR kR evA ?_); refine (tick_ok t8 (by decide)).mono ?_; rintro r h9 ⟨rfl, chg9, t9⟩; replace t9 : TableAt h9 D3 b1 [] := t9
  refine w_pv rfl dC (want_let rfl rfl evA) (p_val evA) ?_
  refine w_pv rfl dC (want_none rfl) (p_val evA) ?_
  refine w_pv rfl dC (want_none rfl) (p_val evA) ?_
  refine w_ac rfl dC (want_let rfl rfl evA) (s_call rfl rfl Try.func27 kR kR evA ?_); refine (tlen_ok t9).mono ?_; rintro r h10 ⟨rfl, rfl⟩
  refine w_pv rfl dC (want_let rfl rfl evA) (p_val evA) ?_
  refine w_pv rfl dC (want_none rfl) (p_val evA) ?_
  refine w_pv rfl dC (want_none rfl) (p_val evA) ?_
  refine w_nil ?_
  exact s_ret ⟨_, res_one rfl rfl, fun b o e => (chg8.trans chg9).keep b o (fun e1 => by rw [e1, hb1] at e; cases e) e, by simp only [pval, ev, upd, binVal, intBin, Option.map_some, ↓reduceIte, reduceCtorEq, Nat.reduceEqDiff, Nat.reduceBEq, List.map_toArray, List.map_cons, List.map_nil, cond_true, cond_false, decide_true, decide_false, Bool.not_true, Bool.not_false, Bool.true_and, Bool.false_and, Bool.and_true, Bool.and_false, beq_self_eq_true, bne_self_eq_false, List.getElem_toArray, List.getElem_cons_succ, List.getElem_cons_zero]; rfl⟩
end Go.Proofs.Ytielfejpnkcjbaa

/- The table of what was heard, as an object. -/
set_option linter.unusedVariables false
set_option linter.unusedSimpArgs false
namespace Go.Proofs.Ytielfejpnkcjbaa
open Sl Ab
/-! ### A call leaves nothing out of what was there -/
theorem Sl.SCalls.dom {P : Program} {f : FuncId} {vs : Array Value} {h : Heap} {R : Value → Heap → Prop} (c : SCalls P f vs h R) : SCalls P f vs h (fun r h2 => ∃ h1, R r h1 ∧ h1.le h2 ∧ (∀ b, h b ≠ none → h2 b ≠ none) ∧ ∀ b, h b = none → h2 b = h1 b) := by
  intro w rel
  refine (c w rel).mono ?_
  rintro e w' ⟨v, h1, rfl, hr, rel1, st⟩
  obtain ⟨G, hG⟩ : ∃ G : Heap, ∀ b, G b = match h1 b with | some o => some o | none => match h b with | some _ => w'.heap[b]? | none => none := ⟨_, fun _ => rfl⟩
  have g1 : ∀ b o, h1 b = some o → G b = some o := fun b o e => by rw [hG, e]
  have g2 : ∀ b o, h1 b = none → h b = some o → G b = w'.heap[b]? := fun b o e1 e2 => by rw [hG, e1]; simp only [e2]
  have g3 : ∀ b, h1 b = none → h b = none → G b = none := fun b e1 e2 => by rw [hG, e1]; simp only [e2]
  refine ⟨v, G, rfl, ⟨h1, hr, g1, fun b hb => ?_, fun b hb => ?_⟩, fun b o e => ?_, ⟨st.os, st.tape, st.output, st.size, st.keep, fun b hb hn => ?_⟩⟩
  · cases e1 : h1 b with
    | some o => rw [g1 b o e1]; simp
    | none =>
      cases e2 : h b with
      | none => exact absurd e2 hb
      | some o =>
        have := Nat.lt_of_lt_of_le (rel.lt e2) st.size
        rw [g2 b o e1 e2]
        simp [this]
  · cases e1 : h1 b with
    | some o => exact g1 b o e1
    | none => exact g3 b e1 hb
  · cases e1 : h1 b with
    | some o' => rw [g1 b o' e1] at e; cases e; exact rel1 b _ e1
    | none =>
      cases e2 : h b with
      | none => rw [g3 b e1 e2] at e; cases e
      | some o' => rw [g2 b o' e1 e2] at e; exact e
  · refine st.fresh b hb fun e1 => ?_
    exact hn (g3 b e1 hb)
theorem Ab.frep_val {h : Heap} {u v : Value} (r : FRep h (.val u) v) : v = u := by cases r; rfl
/-! ### Lists of whole numbers -/
theorem frep_cells {h : Heap} {k : IntKind} {xs : List Int} {v : Value} (c : Cells h 1 v xs.length (xs.map (.int k))) : FRep h (slOf (fun z => [.val (.int k z)]) xs) v := by
  generalize hn : xs.length = n at c
  generalize hc : xs.map (Value.int k) = cs at c
  unfold slOf
  rw [hn]
  cases c with
  | zero a c => exact .sl0 _ _ _
  | @at_ b off n c full e fz cs hb hl hnc hcs =>
    subst hc
    rcases Nat.eq_zero_or_pos n with rfl | hn0
    · exact .sl0 _ _ _
    have hsz : off + n * 1 ≤ full.size := by
      have := congrArg List.length hcs
      simp at this
      rcases Nat.lt_or_ge full.size (off + n) with h1 | h1
      · omega
      · omega
    refine .sl (sz := 1) hb hnc (fun i hi => rfl) (fun i hi => rfl) hsz (fun i j c v hi e1 e2 => ?_)
    cases j with
    | succ j => simp at e1
    | zero =>
      simp only [List.getElem?_cons_zero, Option.some.injEq] at e1
      subst e1
      have h1 : (xs.map (Value.int k))[i]? = some v := by
        rw [← hcs, List.getElem?_take_of_lt (by omega), List.getElem?_drop, Array.getElem?_toList]
        simpa using e2
      rw [List.getElem?_map, List.getElem?_eq_getElem (by omega)] at h1
      simp only [Option.map_some, Option.some.injEq] at h1
      rw [← h1, List.getD_eq_getElem?_getD, List.getElem?_eq_getElem (by omega)]
      exact .val _
theorem cells_frep {h : Heap} {k : IntKind} {xs : List Int} {v : Value} (r : FRep h (slOf (fun z => [.val (.int k z)]) xs) v) : Cells h 1 v xs.length (xs.map (.int k)) ∧ v.oneCell' = true := by
  unfold slOf at r
  generalize hn : xs.length = n at r
  generalize hf : (fun i => (fun z => [FV.val (Value.int k z)]) (xs.getD i default)) = f at r
  cases r with
  | sl0 f a c =>
    rw [List.length_eq_zero_iff.1 hn]
    exact ⟨.zero a c, rfl⟩
  | @sl n f b off c sz full e fz hb hnc hsz h1 hs hr =>
    subst hf
    refine ⟨?_, rfl⟩
    have hsz1 : n = 0 ∨ sz = 1 := by
      rcases Nat.eq_zero_or_pos n with h0 | h0
      · exact .inl h0
      · exact .inr (hsz 0 h0).symm
    refine .at_ hb (by simp [hn]) hnc ?_
    have hs' : off + n ≤ full.size := by rcases hsz1 with rfl | rfl <;> omega
    apply List.ext_getElem?
    intro i
    by_cases hi : i < n
    · rw [List.getElem?_take_of_lt (by omega), List.getElem?_drop, Array.getElem?_toList, List.getElem?_map, List.getElem?_eq_getElem (by omega)]
      have hlt : off + i < full.size := by omega
      have h2 := hr i 0 (.val (.int k (xs.getD i default))) full[off + i] hi rfl (by
        rcases hsz1 with rfl | rfl
        · omega
        · simp [hlt])
      have h3 := frep_val h2
      rw [Array.getElem?_eq_getElem hlt, h3, List.getD_eq_getElem?_getD, List.getElem?_eq_getElem (by omega)]
      rfl
    · rw [List.getElem?_eq_none (by simp; omega), List.getElem?_eq_none (by simp; omega)]
/-! ### Things, messages, entries -/
def encTh (k : ThK) : List FV := [vI k.1.1, vI k.1.2.1, vU k.1.2.2, vU k.2.1, vU k.2.2]
def encSr (xs : List Int) : FV := slOf (fun z => [.val (.int .u32 z)]) xs
def encMs (m : MsgA) : List FV := [vI m.kind, vU m.frm, vU m.to, vU m.src, vU m.grp, vI m.rank, vI m.cost, vB m.only, encSr m.srcs]
def encEn (k : ThK) (ag : Int) (m : MsgA) : List FV := encTh k ++ vI ag :: encMs m
theorem thV_of {h : Heap} {k : ThK} {v : Value} (r0 : FRep h (.agg (encTh k)) v) : v = thV k := by
  obtain ⟨vs, rfl, r⟩ := frep_agg r0
  obtain ⟨v1, vs, rfl, r1, r⟩ := r.uncons
  obtain ⟨v2, vs, rfl, r2, r⟩ := r.uncons
  obtain ⟨v3, vs, rfl, r3, r⟩ := r.uncons
  obtain ⟨v4, vs, rfl, r4, r⟩ := r.uncons
  obtain ⟨v5, vs, rfl, r5, r⟩ := r.uncons
  have : vs = [] := List.length_eq_zero_iff.1 r.1
  rw [frep_val r1, frep_val r2, frep_val r3, frep_val r4, frep_val r5, this]
  rfl
theorem msgV_of {h : Heap} {m : MsgA} {v : Value} (r0 : FRep h (.agg (encMs m)) v) : ∃ sv, v = msgV m sv ∧ Cells h 1 sv m.srcs.length (m.srcs.map (.int .u32)) ∧ sv.oneCell' = true := by
  obtain ⟨vs, rfl, r⟩ := frep_agg r0
  obtain ⟨v1, vs, rfl, r1, r⟩ := r.uncons
  obtain ⟨v2, vs, rfl, r2, r⟩ := r.uncons
  obtain ⟨v3, vs, rfl, r3, r⟩ := r.uncons
  obtain ⟨v4, vs, rfl, r4, r⟩ := r.uncons
  obtain ⟨v5, vs, rfl, r5, r⟩ := r.uncons
  obtain ⟨v6, vs, rfl, r6, r⟩ := r.uncons
  obtain ⟨v7, vs, rfl, r7, r⟩ := r.uncons
  obtain ⟨v8, vs, rfl, r8, r⟩ := r.uncons
  obtain ⟨v9, vs, rfl, r9, r⟩ := r.uncons
  have : vs = [] := List.length_eq_zero_iff.1 r.1
  obtain ⟨hc, h1⟩ := cells_frep r9
  refine ⟨v9, ?_, hc, h1⟩
  rw [frep_val r1, frep_val r2, frep_val r3, frep_val r4, frep_val r5, frep_val r6, frep_val r7, frep_val r8, this]
  rfl
theorem FReps.nil' {h : Heap} : FReps h [] [] := ⟨rfl, fun j c v a => by simp at a⟩
theorem entV_rep {h : Heap} {k : ThK} {ag : Int} {m : MsgA} {sv : Value} (hc : Cells h 1 sv m.srcs.length (m.srcs.map (.int .u32))) : FRep h (.agg (encEn k ag m)) (entV k ag m sv) := by
  have h1 : FReps h (encEn k ag m) [.int .i64 k.1.1, .int .i64 k.1.2.1, .int .u32 k.1.2.2, .int .u32 k.2.1, .int .u32 k.2.2, .int .i64 ag, .int .i64 m.kind, .int .u32 m.frm, .int .u32 m.to, .int .u32 m.src, .int .u32 m.grp, .int .i64 m.rank, .int .i64 m.cost, .bool m.only, sv] :=
    .cons (.val _) (.cons (.val _) (.cons (.val _) (.cons (.val _) (.cons (.val _) (.cons (.val _) (.cons (.val _) (.cons (.val _) (.cons (.val _) (.cons (.val _) (.cons (.val _) (.cons (.val _) (.cons (.val _) (.cons (.val _) (.cons (frep_cells hc) FReps.nil'))))))))))))))
  exact .agg h1.1 h1.2
/-! ### The table -/
abbrev tbO (ts : List AT) (D : Nat → Prop) : OO := .ext D fun v h => ∃ p, v = .pointer (some ⟨p, 0, none⟩) ∧ TableAt h D p ts
theorem TableAt.same {h h' : Heap} {D : Nat → Prop} {p : Nat} {ts : List AT} (t : TableAt h D p ts) (e : ∀ b, D b → h' b = h b) : TableAt h' D p ts := by
  obtain ⟨mv, ty, hp, hDp, hmap⟩ := t.out
  refine ⟨⟨mv, ty, by rw [e p hDp]; exact hp, hDp, hmap.imp id fun ⟨mb, rs, cl, e1, e2, e3, e4, e5⟩ => ⟨mb, rs, cl, e1, e2, ⟨by rw [e mb e2]; exact e3.1, e3.2⟩, e4, fun r hr => (e5 r hr).only fun b o hb h1 _ => by rw [e b hb]; exact h1⟩⟩, fun b hb => by rw [e b hb]; exact t.dom b hb⟩
theorem TableAt.has {h : Heap} {D : Nat → Prop} {p : Nat} {ts : List AT} (t : TableAt h D p ts) : D p := by
  obtain ⟨mv, ty, hp, hDp, hmap⟩ := t.out; exact hDp
open Classical in
/-- The heap without the blocks D. -/
noncomputable def outD (D : Nat → Prop) (h : Heap) : Heap := fun b => if D b then none else h b
theorem outD_in {D : Nat → Prop} {h : Heap} {b : Nat} (hb : D b) : outD D h b = none := if_pos hb
theorem outD_out {D : Nat → Prop} {h : Heap} {b : Nat} (hb : ¬ D b) : outD D h b = h b := if_neg hb
theorem outD_le (D : Nat → Prop) (h : Heap) : (outD D h).le h := fun b o e => by
  by_cases hb : D b
  · rw [outD_in hb] at e; cases e
  · rwa [outD_out hb] at e
theorem g_tab {P : Program} {f : FuncId} {xs : List FV} {ts : List AT} {D : Nat → Prop} {Y : Type} {Pr : Y → Prop} {ts' : Y → List AT} {D' : Y → (Nat → Prop)} {res : Y → FV}
    (c : ∀ (h hF : Heap) (p : Nat) (vs : List Value), TableAt h D p ts → hF.le h → (∀ b, D b → hF b = none) → FReps hF xs vs → SCalls P f (.pointer (some ⟨p, 0, none⟩) :: vs).toArray h (fun r h' => ∃ y, Pr y ∧ Chg D (D' y) h h' ∧ TableAt h' (D' y) p (ts' y) ∧ FRep (outD (D' y) h') (res y) r)) :
    GCall P f (.oe 1000 1 0 0 :: xs.map .fz) [(1000, tbO ts D)] Y Pr (fun y => [(1000, tbO (ts' y) (D' y))]) res := by
  intro γ hF h vs ok only r
  obtain ⟨h1, h2, h3⟩ := ok.ok (1000, tbO ts D) (List.mem_singleton.2 rfl)
  obtain ⟨p, hp, tb⟩ := h3 h (fun _ _ => rfl)
  have hD : ∀ b, D b → hF b = none := fun b hb => ok.out (1000, tbO ts D) (List.mem_singleton.2 rfl) b hb
  obtain ⟨v, ws, rfl, rv, rws⟩ : ∃ v ws, vs = v :: ws ∧ ARep γ hF (.oe 1000 1 0 0) v ∧ AReps γ hF (xs.map .fz) ws := by
    cases vs with
    | nil => simp [AReps] at r
    | cons v ws => exact ⟨v, ws, rfl, r.2 0 _ v rfl rfl, by simpa using r.1, fun j x y e1 e2 => r.2 (j + 1) x y (by simpa using e1) (by simpa using e2)⟩
  have hv : v = .pointer (some ⟨p, 0, none⟩) := by
    cases rv with
    | oe hb =>
      rw [hp] at hb
      simp only [baseOf, Option.some.injEq] at hb
      rw [hb]
  subst hv
  refine (SCalls.dom (c h hF p ws tb ok.le hD rws.unfz)).mono ?_
  rintro v h2' ⟨h1', ⟨y, hy, chg, tb', hres⟩, hle, hdom, hsame⟩
  have hnone : ∀ b, D' y b → hF b = none := fun b hb => by
    rcases chg.ext b hb with hb | hb
    · exact hD b hb
    · cases e : hF b with
      | none => rfl
      | some o => rw [ok.le b o e] at hb; cases hb
  have hFo : hF.le (outD (D' y) h2') := fun b o e => by
    have h4 : ¬ D' y b := fun h4 => by rw [hnone b h4] at e; cases e
    rw [outD_out h4]
    exact hle b o (chg.keep b o (fun h5 => by rw [hD b h5] at e; cases e) (ok.le b o e))
  refine ⟨y, hy, outD (D' y) h2', hFo, ⟨hFo, outD_le _ _, fun e he => ?_, fun e he b hb => ?_, fun e he e' he' b hne => ?_, fun _ _ => rfl, by simp⟩, rfl, fun e he b hb => ?_, fun e he b hb => ?_, ?_⟩
  · rw [List.mem_singleton.1 he]
    have tb2 := tb'.le hle
    refine ⟨fun b hb => ?_, tb2.dom, fun h' hh => ⟨p, hp, tb2.same hh⟩⟩
    simp only [hp, baseOf, Option.some.injEq] at hb
    rw [← hb]; exact tb2.has
  · rw [List.mem_singleton.1 he] at hb
    exact outD_in hb
  · rw [List.mem_singleton.1 he, List.mem_singleton.1 he'] at hne; exact absurd rfl hne
  · rw [List.mem_singleton.1 he] at hb ⊢
    rcases chg.ext b hb with hb | hb
    · exact .inl ⟨_, List.mem_singleton.2 rfl, rfl, hb⟩
    · exact .inr hb
  · rw [List.mem_singleton.1 he] at hb
    exact hdom b (h2 b hb)
  · refine hres.le fun b o e => ?_
    by_cases hb : D' y b
    · rw [outD_in hb] at e; cases e
    · rw [outD_out hb] at e ⊢
      exact hle b o e
end Go.Proofs.Ytielfejpnkcjbaa

/- Hear, Tick, Get, Len over the table as an object. -/
set_option linter.unusedVariables false
set_option linter.unusedSimpArgs false
namespace Go.Proofs.Ytielfejpnkcjbaa
open Sl Ab
theorem hear_g (ts : List AT) (D : Nat → Prop) (k : ThK) (m : MsgA) (few : ts.length < 65536) (hn : m.srcs.length ≤ 1000000) : GCall Try.prog 22 [.oe 1000 1 0 0, .fz (.agg (encTh k)), .fz (.agg (encMs m))] [(1000, tbO ts D)] (Nat → Prop) (fun _ => True) (fun D' => [(1000, tbO (putT ts k m) D')]) (fun _ => vB true) := by
  refine g_tab (xs := [.agg (encTh k), .agg (encMs m)]) (ts' := fun _ => putT ts k m) (D' := fun D' => D') fun h hF p vs tb hle hD r => ?_
  obtain ⟨v1, vs, rfl, r1, r⟩ := r.uncons
  obtain ⟨v2, vs, rfl, r2, r⟩ := r.uncons
  have : vs = [] := List.length_eq_zero_iff.1 r.1
  subst this
  cases thV_of r1
  obtain ⟨sv, rfl, hc, h1⟩ := msgV_of r2
  refine (hear_ok k m sv tb few (hc.le hle) hn h1 fun h0 b hb hDb => ?_).mono ?_
  · generalize m.srcs.length = n at hc h0
    generalize m.srcs.map (Value.int .u32) = cs at hc
    cases hc with
    | zero a c => exact h0 rfl
    | at_ hb' => cases hb; rw [hD _ hDb] at hb'; cases hb'
  · rintro r h' ⟨rfl, D', chg, tb'⟩
    exact ⟨D', trivial, chg, tb', .val _⟩
theorem tick_g (ts : List AT) (D : Nat → Prop) (few : ts.length ≤ 1000000) : GCall Try.prog 23 [.oe 1000 1 0 0] [(1000, tbO ts D)] Unit (fun _ => True) (fun _ => [(1000, tbO (ts.filterMap tickT) D)]) (fun _ => vI (goneT ts : Nat)) := by
  refine g_tab (xs := []) (ts' := fun _ => ts.filterMap tickT) (D' := fun _ => D) fun h hF p vs tb hle hD r => ?_
  have : vs = [] := List.length_eq_zero_iff.1 r.1
  subst this
  refine (tick_ok tb few).mono ?_
  rintro r h' ⟨rfl, chg, tb'⟩
  exact ⟨(), trivial, chg, tb', .val _⟩
theorem len_g (ts : List AT) (D : Nat → Prop) : GCall Try.prog 27 [.oe 1000 1 0 0] [(1000, tbO ts D)] Unit (fun _ => True) (fun _ => [(1000, tbO ts D)]) (fun _ => vI (ts.length : Nat)) := by
  refine g_tab (xs := []) (ts' := fun _ => ts) (D' := fun _ => D) fun h hF p vs tb hle hD r => ?_
  have : vs = [] := List.length_eq_zero_iff.1 r.1
  subst this
  refine (tlen_ok tb).mono ?_
  rintro r h' ⟨rfl, rfl⟩
  exact ⟨(), trivial, Chg.refl _ _, tb, .val _⟩
theorem get_g (ts : List AT) (D : Nat → Prop) (k : ThK) : GCall Try.prog 24 [.oe 1000 1 0 0, .fz (.agg (encTh k))] [(1000, tbO ts D)] (ThK × Int × MsgA × Bool) (fun y => GetAns ts k y.1 y.2.1 y.2.2.1 y.2.2.2 ∧ y.2.2.1.srcs.length ≤ 1000000) (fun _ => [(1000, tbO ts D)]) (fun y => .tup [.agg (encEn y.1 y.2.1 y.2.2.1), vB y.2.2.2]) := by
  refine g_tab (xs := [.agg (encTh k)]) (ts' := fun _ => ts) (D' := fun _ => D) fun h hF p vs tb hle hD r => ?_
  obtain ⟨v1, vs, rfl, r1, r⟩ := r.uncons
  have : vs = [] := List.length_eq_zero_iff.1 r.1
  subst this
  cases thV_of r1
  refine (tget2_ok k tb).mono ?_
  rintro r h' ⟨hle', k', ag, mg, is, sv, hans, rfl, hc, hl, h1, hfr⟩
  refine ⟨(k', ag, mg, is), ⟨hans, hl⟩, (Chg.refl _ _).le hle', tb.le hle', ?_⟩
  have hc2 : Cells (outD D h') 1 sv mg.srcs.length (mg.srcs.map (.int .u32)) := hc.only fun q o hq e => by
    rw [outD_out (fun hb => tb.dom q hb (hfr q hq))]; exact e
  have h2 : FReps (outD D h') [.agg (encEn k' ag mg), vB is] [entV k' ag mg sv, .bool is] := .cons (entV_rep hc2) (.cons (.val _) FReps.nil')
  exact .tup h2.1 h2.2
end Go.Proofs.Ytielfejpnkcjbaa

/- The table gone through: rules. -/
set_option linter.unusedVariables false
set_option linter.unusedSimpArgs false
namespace Go.Proofs.Ytielfejpnkcjbaa
open Sl Ab
/-- The table's cell, its map, and where one is in it. -/
def phT (p : Nat) (ty : TypeId) (mv : Value) (l : List (Ey ThK)) (cl : Nat) (io : Option (Nat × List Nat)) (v : Value) (h : Heap) : Prop :=
  v = .pointer (some ⟨p, 0, none⟩) ∧ h p = some (.cells #[mv] ty (0, 0)) ∧ MapV thV h mv l cl ∧ ∀ it seen, io = some (it, seen) → ItV h it mv cl seen
def addB (D : Nat → Prop) (it b : Nat) : Prop := D b ∨ b = it
section
variable {p cl : Nat} {ty : TypeId} {mv : Value} {l : List (Ey ThK)} {D : Nat → Prop}
theorem phT.same {io : Option (Nat × List Nat)} {v : Value} {h h' : Heap} (x : phT p ty mv l cl io v h) (hp : h' p = h p) (hm : ∀ b, mvB mv b → h' b = h b) (hi : ∀ it seen, io = some (it, seen) → h' it = h it) : phT p ty mv l cl io v h' :=
  ⟨x.1, by rw [hp]; exact x.2.1, x.2.2.1.same hm, fun it seen e => (x.2.2.2 it seen e).same (hi it seen e)⟩
variable {N : Nat} {ops : Array Oper} {h0 : Gd} {Qr : Tm → Heap → Prop} {s : St} {az : List AO} {d : Nat} {q : Bool}
theorem oe_base {β : Nat → Value} {hF : Heap} {v : Value} {id p : Nat} (r : ARep β hF (.oe id 1 0 0) v) (hb : β id = .pointer (some ⟨p, 0, none⟩)) : v = .pointer (some ⟨p, 0, none⟩) := by
  cases r with
  | oe h => rw [hb] at h; simp only [baseOf, Option.some.injEq] at h; rw [h]
/-- The map is read off the table's cell. -/
theorem r_ldT {t : TypeId} {x : Operand} (hs : isOne Try.prog t = true) (hDp : D p) (hDm : ∀ b, mvB mv b → D b) (hσ : lookS s.σ 1000 = some (.ext D (phT p ty mv l cl none))) (hx : opd s.L s.T [] x = some (.oe 1000 1 0 0))
    (r : Reg Try.prog N ops none h0 Qr az ⟨s.T, (d, none, .fz (.val mv)) :: s.L, setS s.σ 1000 (.ext D (phT p ty mv l cl none)), if q = true then s.rs else []⟩) : Reg Try.prog N ops none h0 Qr (⟨some d, none, .ld t x, q⟩ :: az) s := by
  refine ext_act hσ (Y := Unit) (fun _ => True) (fun _ => D) (fun _ => phT p ty mv l cl none) (fun _ => .val mv) (fun o ho β hF h Tc sem hΦ dom => ?_) (fun _ _ => r)
  have hv := oe_base (opd_ok sem (ch := []) (fun x hx => by cases hx) hx) hΦ.1
  exact (r_ld1 ho hs hv hΦ.2.1 rfl).sop ⟨(), trivial, .val _, fun _ _ _ e => e, fun _ e => e, fun _ e => .inl e, dom, fun h'' e => hΦ.same (e p hDp) (fun b hb => e b (hDm b hb)) (fun _ _ e => by cases e)⟩
theorem r_rangeT {t e kt : TypeId} {x : Operand} (ht : Try.prog.underlying t = some (.map kt e)) (hDp : D p) (hDm : ∀ b, mvB mv b → D b) (hσ : lookS s.σ 1000 = some (.ext D (phT p ty mv l cl none))) (hx : opd s.L s.T [] x = some (.fz (.val mv)))
    (r : ∀ it, ¬ D it → Reg Try.prog N ops none h0 Qr az ⟨s.T, (d, none, .fz (.val (.pointer (some ⟨it, 0, none⟩)))) :: s.L, setS s.σ 1000 (.ext (addB D it) (phT p ty mv l cl (some (it, [])))), if q = true then s.rs else []⟩) : Reg Try.prog N ops none h0 Qr (⟨some d, none, .other (.range t x), q⟩ :: az) s := by
  refine ext_act hσ (Y := Nat) (fun it => ¬ D it) (fun it => addB D it) (fun it => phT p ty mv l cl (some (it, []))) (fun it => .val (.pointer (some ⟨it, 0, none⟩))) (fun o ho β hF h Tc sem hΦ dom => ?_) (fun it hit => r it hit)
  have hv := fz_val (opd_ok sem (ch := []) (fun x hx => by cases hx) hx)
  refine s_rangeV ho ht hv hΦ.2.2.1 fun it ob hit hI => ?_
  have hnD : ¬ D it := fun hd => dom it hd hit
  have hoth : ∀ b, D b → h.set it ob b = h b := fun b hb => Heap.set_other _ _ fun e => hnD (by rw [← e]; exact hb)
  refine ⟨it, hnD, .val _, fun b o _ e => Heap.le_set ob hit b o e, fun b hb => .inl hb, fun b hb => hb.imp id fun e => by rw [e]; exact hit, fun b hb => ?_, fun h'' e => ?_⟩
  · rcases hb with hb | rfl
    · rw [hoth b hb]; exact dom b hb
    · rw [Heap.set_same]; simp
  · refine ⟨hΦ.1, by rw [e p (.inl hDp), hoth p hDp]; exact hΦ.2.1, hΦ.2.2.1.same fun b hb => by rw [e b (.inl (hDm b hb)), hoth b (hDm b hb)], fun it' seen e1 => ?_⟩
    cases e1
    exact hI.same (e it (.inr rfl))
theorem r_nextT {x : Operand} {it : Nat} {seen : List Nat} (K V : Ey ThK → FV) (hK : ∀ e ∈ l, FRep h0.h (K e) (thV e.key) ∧ FRep h0.h (V e) e.val) (hDp : D p) (hDm : ∀ b, mvB mv b → D b) (hnD : ¬ D it) (hσ : lookS s.σ 1000 = some (.ext (addB D it) (phT p ty mv l cl (some (it, seen))))) (hx : opd s.L s.T [] x = some (.fz (.val (.pointer (some ⟨it, 0, none⟩)))))
    (over : (∀ e ∈ l, e.born ∈ seen) → Reg Try.prog N ops none h0 Qr az ⟨s.T, (d, none, .fz (.tup [vB false])) :: s.L, setS s.σ 1000 (.ext (addB D it) (phT p ty mv l cl (some (it, seen)))), if q = true then s.rs else []⟩)
    (step : ∀ e ∈ l, e.born ∉ seen → Reg Try.prog N ops none h0 Qr az ⟨s.T, (d, none, .fz (.tup [vB true, K e, V e])) :: s.L, setS s.σ 1000 (.ext (addB D it) (phT p ty mv l cl (some (it, seen ++ [e.born])))), if q = true then s.rs else []⟩) : Reg Try.prog N ops none h0 Qr (⟨some d, none, .other (.next x false), q⟩ :: az) s := by
  refine ext_act hσ (Y := Option (Ey ThK)) (fun y => match y with | none => ∀ e ∈ l, e.born ∈ seen | some e => e ∈ l ∧ e.born ∉ seen) (fun _ => addB D it) (fun y => match y with | none => phT p ty mv l cl (some (it, seen)) | some e => phT p ty mv l cl (some (it, seen ++ [e.born]))) (fun y => match y with | none => .tup [vB false] | some e => .tup [vB true, K e, V e]) (fun o ho β hF h Tc sem hΦ dom => ?_) (fun y hy => ?_)
  · have hv := fz_val (opd_ok sem (ch := []) (fun x hx => by cases hx) hx)
    refine s_nextV ho hv (hΦ.2.2.2 it seen rfl) hΦ.2.2.1 (fun hall => ?_) (fun e ob he hs hI => ?_)
    · have h2 : FReps h0.h [vB false] [.bool false] := .cons (.val _) FReps.nil'
      exact ⟨none, hall, .tup h2.1 h2.2, fun _ _ _ e => e, fun _ e => e, fun _ e => .inl e, dom, fun h'' e => hΦ.same (e p (.inl hDp)) (fun b hb => e b (.inl (hDm b hb))) (fun _ _ e1 => by cases e1; exact e it (.inr rfl))⟩
    · have h2 : FReps h0.h [vB true, K e, V e] [.bool true, thV e.key, e.val] := .cons (.val _) (.cons (hK e he).1 (.cons (hK e he).2 FReps.nil'))
      have hoth : ∀ b, b ≠ it → h.set it ob b = h b := fun b hb => Heap.set_other _ _ hb
      have hpit : p ≠ it := fun e => hnD (by rw [← e]; exact hDp)
      have hmit : ∀ b, mvB mv b → b ≠ it := fun b hb e => hnD (by rw [← e]; exact hDm b hb)
      refine ⟨some e, ⟨he, hs⟩, .tup h2.1 h2.2, fun b o hb e => by rw [hoth b fun e1 => hb (.inr e1)]; exact e, fun _ e => e, fun _ e => .inl e, fun b hb => ?_, fun h'' e1 => ?_⟩
      · by_cases hbi : b = it
        · rw [hbi, Heap.set_same]; simp
        · rw [hoth b hbi]; exact dom b hb
      · refine ⟨hΦ.1, by rw [e1 p (.inl hDp), hoth p hpit]; exact hΦ.2.1, hΦ.2.2.1.same fun b hb => by rw [e1 b (.inl (hDm b hb)), hoth b (hmit b hb)], fun it' seen' e2 => ?_⟩
        cases e2
        exact hI.same (e1 it (.inr rfl))
  · cases y with
    | none => exact over hy
    | some e => exact step e hy.1 hy.2
def restOf (K V : Ey ThK → FV) : Option (Ey ThK) → List FV
  | none => []
  | some e => [K e, V e]
def seenOf (seen : List Nat) : Option (Ey ThK) → List Nat
  | none => seen
  | some e => seen ++ [e.born]
theorem r_nextY {x : Operand} {it : Nat} {seen : List Nat} (K V : Ey ThK → FV) (hK : ∀ e ∈ l, FRep h0.h (K e) (thV e.key) ∧ FRep h0.h (V e) e.val) (hDp : D p) (hDm : ∀ b, mvB mv b → D b) (hnD : ¬ D it) (hσ : lookS s.σ 1000 = some (.ext (addB D it) (phT p ty mv l cl (some (it, seen))))) (hx : opd s.L s.T [] x = some (.fz (.val (.pointer (some ⟨it, 0, none⟩)))))
    (r : ∀ y : Option (Ey ThK), (y = none → ∀ e ∈ l, e.born ∈ seen) → (∀ e, y = some e → e ∈ l ∧ e.born ∉ seen) → Reg Try.prog N ops none h0 Qr az ⟨s.T, (d, none, .fz (.tup (vB y.isSome :: restOf K V y))) :: s.L, setS s.σ 1000 (.ext (addB D it) (phT p ty mv l cl (some (it, seenOf seen y)))), if q = true then s.rs else []⟩) : Reg Try.prog N ops none h0 Qr (⟨some d, none, .other (.next x false), q⟩ :: az) s :=
  r_nextT K V hK hDp hDm hnD hσ hx (fun h => r none (fun _ => h) (fun _ e => by cases e)) (fun e h1 h2 => r (some e) (fun e => by cases e) (fun e' h => by cases h; exact ⟨h1, h2⟩))
theorem r_entryT {x : Operand} {it β' : Nat} {seen : List Nat} {e : Ey ThK} (K V : FV) (hK : FRep h0.h K (thV e.key)) (hV : FRep h0.h V e.val) (he : e ∈ l) (heb : e.born = β') (hDp : D p) (hDm : ∀ b, mvB mv b → D b) (hσ : lookS s.σ 1000 = some (.ext (addB D it) (phT p ty mv l cl (some (it, seen ++ [β']))))) (hx : opd s.L s.T [] x = some (.fz (.val (.pointer (some ⟨it, 0, none⟩)))))
    (r : Reg Try.prog N ops none h0 Qr az ⟨s.T, (d, none, .fz (.tup [K, V])) :: s.L, setS s.σ 1000 (.ext (addB D it) (phT p ty mv l cl (some (it, seen ++ [β'])))), if q = true then s.rs else []⟩) : Reg Try.prog N ops none h0 Qr (⟨some d, none, .other (.entry x), q⟩ :: az) s := by
  refine ext_act hσ (Y := Unit) (fun _ => True) (fun _ => addB D it) (fun _ => phT p ty mv l cl (some (it, seen ++ [β']))) (fun _ => .tup [K, V]) (fun o ho β hF h Tc sem hΦ dom => ?_) (fun _ _ => r)
  have hv := fz_val (opd_ok sem (ch := []) (fun x hx => by cases hx) hx)
  have h2 : FReps h0.h [K, V] [thV e.key, e.val] := .cons hK (.cons hV FReps.nil')
  exact (r_entryV ho hv (hΦ.2.2.2 it _ rfl) hΦ.2.2.1 he heb).sop ⟨(), trivial, .tup h2.1 h2.2, fun _ _ _ e => e, fun _ e => e, fun _ e => .inl e, dom, fun h'' e => hΦ.same (e p (.inl hDp)) (fun b hb => e b (.inl (hDm b hb))) (fun _ _ e1 => by cases e1; exact e it (.inr rfl))⟩
end
end Go.Proofs.Ytielfejpnkcjbaa

/- Sorting rivulet/age.Entry: the walks. -/
set_option linter.unusedVariables false
set_option linter.unusedSimpArgs false
namespace Go.Proofs.Ytielfejpnkcjbaa.SortE
open Sl Ab Go.Sort
section
variable {α : Type} [Inhabited α] {e : Enc α 15} {cmp : α → α → Int}
theorem ins_ok (c : CmpFn Try.prog e cmp) (d : Array α) (a b : Nat) (hb : b ≤ d.size) (hs : d.size ≤ 1000000000) (ha : a ≤ d.size) : GCall Try.prog 69 [.os 1000, .fz (vI a), .fz (vI b), .fz c.fv] [(1000, .rows 64 15 (rw e d))] (Array α) (fun d' => d' = insertionSort (ltOf cmp) d a b) (fun d' => [(1000, .rows 64 15 (rw e d'))]) (fun _ => .tup []) := by
  refine g_enter1 Try.func69 rfl (fun h0 => ?_)
  simp only [argG]
  have hR : ∀ d : Array α, (rw e d).length = d.size := fun _ => rw_length
  have hw : IntKind.i64.wrap ((a : Int) + 1) = ((a + 1 : Nat) : Int) := wrap64_nat _ _ (by omega) (by omega)
  refine a_seq ?_
  refine a_reg [⟨some 10, none, .mv (tm 1), false⟩, ⟨some 11, none, .bin .add 3 (tm 10) (ci 1) 3, false⟩, ⟨some 8, none, .asg (tm 11), false⟩] kR kR ?_
  refine r_run ?_
  refine r_end [0, 1, 2, 3, 8, 9, 14, 34] ?_
  refine a_block ?_
  refine c_weak [0, 1, 2, 3, 8] ?_
  refine a_loop (fun m T σ => ∃ (i : Nat) (d1 : Array α), m = b - i ∧ a < i ∧ d1.size = d.size ∧ insOuter (ltOf cmp) a b i d1 = insertionSort (ltOf cmp) d a b ∧ T = [(0, .os 1000), (1, .fz (vI a)), (2, .fz (vI b)), (3, .fz c.fv), (8, .fz (vI i))] ∧ σ = [(1000, .rows 64 15 (rw e d1))]) (b - (a + 1)) (⟨a + 1, d, rfl, by omega, rfl, rfl, rfl, rfl⟩) ?_
  rintro m T σ ⟨i, d1, hmi, hi, hs1, heq, rfl, rfl⟩
  refine a_seq ?_
  refine a_seq ?_
  refine a_reg [⟨some 12, none, .mv (tm 8), false⟩, ⟨some 13, none, .mv (tm 2), false⟩, ⟨some 14, none, .bin .lss 3 (tm 12) (tm 13) 3, false⟩] kR kR ?_
  refine r_run ?_
  refine r_end [0, 1, 2, 3, 8, 9, 14, 34] ?_
  refine c_cond (fun hb0 => ?_) (fun hb0 => ?_)
  · have hb0' : i < b := by simpa using hb0
    have hwi : IntKind.i64.wrap ((i : Int) + 1) = ((i + 1 : Nat) : Int) := wrap64_nat _ _ (by omega) (by omega)
    refine a_skip ?_
    refine a_seq ?_
    refine a_block ?_
    refine a_seq ?_
    refine a_reg [⟨some 17, none, .mv (tm 8), false⟩, ⟨some 9, none, .asg (tm 17), false⟩] kR kR ?_
    refine r_run ?_
    refine r_end [0, 1, 2, 3, 8, 9, 14, 34] ?_
    refine a_block ?_
    refine c_weak [0, 1, 2, 3, 8, 9] ?_
    refine a_loop (fun m T σ => ∃ (j : Nat) (d2 : Array α), m = j ∧ a ≤ j ∧ j ≤ i ∧ d2.size = d.size ∧ insInner (ltOf cmp) a j d2 = insInner (ltOf cmp) a i d1 ∧ T = [(0, .os 1000), (1, .fz (vI a)), (2, .fz (vI b)), (3, .fz c.fv), (8, .fz (vI i)), (9, .fz (vI j))] ∧ σ = [(1000, .rows 64 15 (rw e d2))]) (i) (⟨i, d1, rfl, by omega, by omega, hs1, rfl, rfl, rfl⟩) ?_
    rintro m T σ ⟨j, d2, hmj, hj1, hj2, hs2, heq2, rfl, rfl⟩
    have hwj : IntKind.i64.wrap ((j : Int) - 1) = (j : Int) - 1   := wrap64_in _ (by omega) (by omega)
    have htj : ((j : Int) - 1).toNat = j - 1 := by omega
    refine a_seq ?_
    refine a_seq ?_
    refine a_regd [0, 1, 2, 3, 4, 5, 6, 7, 8, 9, 10, 11, 12, 13, 14, 15, 16] [14] [⟨some 18, none, .mv (tm 9), true⟩, ⟨some 19, none, .mv (tm 1), true⟩, ⟨some 20, none, .bin .gtr 3 (tm 18) (tm 19) 3, true⟩, ⟨some 21, none, .mv (tm 20), true⟩, ⟨some 22, some (21, true), .mv (tm 3), true⟩, ⟨some 23, some (21, true), .mv (tm 0), true⟩, ⟨some 24, some (21, true), .mv (tm 9), true⟩, ⟨some 25, some (21, true), .ix 71 (tm 23) (tm 24) 64 15, true⟩, ⟨some 26, some (21, true), .ldN 64 (tm 25) 15, true⟩, ⟨some 27, some (21, true), .mv (tm 0), true⟩, ⟨some 28, some (21, true), .mv (tm 9), true⟩, ⟨some 29, some (21, true), .bin .sub 3 (tm 28) (ci 1) 3, true⟩, ⟨some 30, some (21, true), .ix 71 (tm 27) (tm 29) 64 15, true⟩, ⟨some 31, some (21, true), .ldN 64 (tm 30) 15, true⟩, ⟨some 32, some (21, true), .callv (tm 22) [(tm 26), (tm 31)] [64, 64], false⟩, ⟨some 33, some (21, true), .bin .lss 3 (tm 32) (ci 0) 3, true⟩, ⟨some 34, none, .pick 21 (tm 33) (.const (Value.bool false)), true⟩] kR kR kR kR kR ?_
    refine r_runO ?_ ?_
    · (simp only [decide_eq_true_eq]; omega)
    refine r_callg (c.at (d := d2) j (j - 1) (by omega) (by omega)) (hc := c.ok) ?_
    refine r_run ?_
    refine r_end [0, 1, 2, 3, 8, 9, 14, 34] ?_
    refine c_cond (fun hb1 => ?_) (fun hb1 => ?_)
    · simp only [Bool.and_eq_true, decide_eq_true_eq] at hb1
      have hc1 : (j : Int) - 1 = ((j - 1 : Nat) : Int) := by omega
      have hw1 : IntKind.i64.wrap ((j - 1 : Nat) : Int) = ((j - 1 : Nat) : Int) := wrap64_nat _ _ rfl (by omega)
      refine a_skip ?_
      refine a_seq ?_
      refine a_block ?_
      refine a_regd [0, 1, 2, 3, 4, 5, 6, 7, 8, 9, 10, 11, 12, 13, 14, 15, 16, 17] [15, 17] [⟨some 37, none, .mv (tm 0), true⟩, ⟨some 38, none, .mv (tm 9), true⟩, ⟨some 39, none, .mv (tm 0), true⟩, ⟨some 40, none, .mv (tm 9), true⟩, ⟨some 41, none, .bin .sub 3 (tm 40) (ci 1) 3, true⟩, ⟨some 42, none, .mv (tm 0), true⟩, ⟨some 43, none, .mv (tm 9), true⟩, ⟨some 44, none, .bin .sub 3 (tm 43) (ci 1) 3, true⟩, ⟨some 45, none, .ix 71 (tm 42) (tm 44) 64 15, true⟩, ⟨some 46, none, .ldN 64 (tm 45) 15, true⟩, ⟨some 47, none, .mv (tm 0), true⟩, ⟨some 48, none, .mv (tm 9), true⟩, ⟨some 49, none, .ix 71 (tm 47) (tm 48) 64 15, true⟩, ⟨some 50, none, .ldN 64 (tm 49) 15, true⟩, ⟨some 51, none, .ix 71 (tm 37) (tm 38) 64 15, true⟩, ⟨none, none, .stN 64 (tm 51) (tm 46) 15, false⟩, ⟨some 52, none, .ix 71 (tm 39) (tm 41) 64 15, true⟩, ⟨none, none, .stN 64 (tm 52) (tm 50) 15, false⟩] kR kR kR kR kR ?_
      refine r_runO ?_ ?_
      · (repeat' (first | exact rw_len (by omega) | exact rw_one (by omega) | refine ⟨?_, ?_⟩ | omega | trivial | (simp only [List.length_set, rw_length]; omega)))
      refine r_end [0, 1, 2, 3, 8, 9, 14, 34] ?_
      refine a_nil ?_
      refine x_end ?_
      refine a_reg [⟨some 35, none, .mv (tm 9), false⟩, ⟨some 36, none, .bin .sub 3 (tm 35) (ci 1) 3, false⟩, ⟨some 9, none, .asg (tm 36), false⟩] kR kR ?_
      refine r_run ?_
      refine r_end [0, 1, 2, 3, 8, 9, 14, 34] ?_
      refine a_nil ?_
      refine x_weak [0, 1, 2, 3, 8, 9] ?_
      exact x_next (j - 1) (by omega) (⟨j - 1, swp d2 j (j - 1), rfl, by omega, by omega, (size_swp _ _ _).trans hs2, (insInner_go hb1.1 hb1.2).trans heq2, rfl, by rw [rw_swp (by omega) (by omega)]⟩)
    · refine a_exit ?_
      refine x_then ?_
      refine x_here ?_
      refine a_nil ?_
      refine x_end ?_
      refine a_reg [⟨some 15, none, .mv (tm 8), false⟩, ⟨some 16, none, .bin .add 3 (tm 15) (ci 1) 3, false⟩, ⟨some 8, none, .asg (tm 16), false⟩] kR kR ?_
      refine r_run ?_
      refine r_end [0, 1, 2, 3, 8, 9, 14, 34] ?_
      refine a_nil ?_
      refine x_weak [0, 1, 2, 3, 8] ?_
      exact x_next (b - (i + 1)) (by omega) (⟨i + 1, d2, rfl, by omega, hs2, by rw [← heq, insOuter_go hb0', ← heq2, insInner_stop (by simpa using hb1)], rfl, rfl⟩)
  · refine a_exit ?_
    refine x_then ?_
    refine x_here ?_
    refine a_nil ?_
    refine y_retG [] (insertionSort (ltOf cmp) d a b) [1000] ?_ ?_ ?_
    · exact rfl
    · exact by rw [← heq, insOuter_end (by simpa using hb0)]
    · exact frep_of rfl
end
end Go.Proofs.Ytielfejpnkcjbaa.SortE

/- Sorting rivulet/age.Entry: the heap. -/
set_option linter.unusedVariables false
set_option linter.unusedSimpArgs false
namespace Go.Proofs.Ytielfejpnkcjbaa.SortE
open Sl Ab Go.Sort
section
variable {α : Type} [Inhabited α] {e : Enc α 15} {cmp : α → α → Int}
theorem sift_ok (c : CmpFn Try.prog e cmp) (d : Array α) (lo hi f : Nat) (hf : f + hi ≤ d.size) (hs : d.size ≤ 1000000000) (hlo : lo ≤ d.size) : GCall Try.prog 81 [.os 1000, .fz (vI lo), .fz (vI hi), .fz (vI f), .fz c.fv] [(1000, .rows 64 15 (rw e d))] (Array α) (fun d' => d' = siftDown (ltOf cmp) hi f lo d) (fun d' => [(1000, .rows 64 15 (rw e d'))]) (fun _ => .tup []) := by
  refine g_enter1 Try.func81 rfl (fun h0 => ?_)
  simp only [argG]
  have hR : ∀ d : Array α, (rw e d).length = d.size := fun _ => rw_length
  refine a_seq ?_
  refine a_reg [⟨some 12, none, .mv (tm 1), false⟩, ⟨some 10, none, .asg (tm 12), false⟩] kR kR ?_
  refine r_run ?_
  refine r_end [0, 1, 2, 3, 4, 10, 11, 18, 40, 58] ?_
  refine a_block ?_
  refine c_weak [0, 1, 2, 3, 4, 10] ?_
  refine a_loop (fun m T σ => ∃ (r : Nat) (d1 : Array α), m = hi - r ∧ r ≤ d.size ∧ d1.size = d.size ∧ siftDown (ltOf cmp) hi f r d1 = siftDown (ltOf cmp) hi f lo d ∧ T = [(0, .os 1000), (1, .fz (vI lo)), (2, .fz (vI hi)), (3, .fz (vI f)), (4, .fz c.fv), (10, .fz (vI r))] ∧ σ = [(1000, .rows 64 15 (rw e d1))]) (hi - lo) (⟨lo, d, rfl, hlo, rfl, rfl, rfl, rfl⟩) ?_
  rintro m T σ ⟨r, d1, hmr, hr, hs1, heq, rfl, rfl⟩
  have hw1 : IntKind.i64.wrap (2 * (r : Int)) = ((2 * r : Nat) : Int) := wrap64_nat _ _ (by omega) (by omega)
  have hw2 : IntKind.i64.wrap (((2 * r : Nat) : Int) + 1) = ((2 * r + 1 : Nat) : Int) := wrap64_nat _ _ (by omega) (by omega)
  have hw3 : IntKind.i64.wrap (((2 * r + 1 : Nat) : Int) + 1) = ((2 * r + 1 + 1 : Nat) : Int) := wrap64_nat _ _ (by omega) (by omega)
  have hw4 : IntKind.i64.wrap ((f : Int) + ((2 * r + 1 : Nat) : Int)) = ((f + (2 * r + 1) : Nat) : Int) := wrap64_nat _ _ (by omega) (by omega)
  have hw5 : IntKind.i64.wrap (((f + (2 * r + 1) : Nat) : Int) + 1) = ((f + (2 * r + 1) + 1 : Nat) : Int) := wrap64_nat _ _ (by omega) (by omega)
  have hw6 : IntKind.i64.wrap ((f : Int) + (r : Int)) = ((f + r : Nat) : Int) := wrap64_nat _ _ (by omega) (by omega)
  refine a_block ?_
  refine a_seq ?_
  refine a_reg [⟨some 13, none, .mv (tm 10), false⟩, ⟨some 14, none, .bin .mul 3 (ci 2) (tm 13) 3, false⟩, ⟨some 15, none, .bin .add 3 (tm 14) (ci 1) 3, false⟩, ⟨some 11, none, .asg (tm 15), false⟩] kR kR ?_
  refine r_run ?_
  refine r_end [0, 1, 2, 3, 4, 10, 11, 18, 40, 58] ?_
  refine a_seq ?_
  refine a_seq ?_
  refine a_reg [⟨some 16, none, .mv (tm 11), false⟩, ⟨some 17, none, .mv (tm 2), false⟩, ⟨some 18, none, .bin .geq 3 (tm 16) (tm 17) 3, false⟩] kR kR ?_
  refine r_run ?_
  refine r_end [0, 1, 2, 3, 4, 10, 11, 18, 40, 58] ?_
  refine c_cond (fun hb0 => ?_) (fun hb0 => ?_)
  · simp only [decide_eq_true_eq] at hb0
    refine a_exit ?_
    refine x_up (by decide) ?_
    refine x_then ?_
    refine x_here ?_
    refine a_nil ?_
    refine y_retG [] (siftDown (ltOf cmp) hi f lo d) [1000] ?_ ?_ ?_
    · exact rfl
    · exact by rw [← heq, sift_end (by omega)]
    · exact frep_of rfl
  · simp only [decide_eq_false_iff_not] at hb0
    have hr1 : 2 * r + 1 < hi := by omega
    refine a_skip ?_
    refine a_seq ?_
    refine a_seq ?_
    refine a_regd [0, 1, 2, 3, 4, 5, 6, 7, 8, 9, 10, 11, 12, 13, 14, 15, 16, 17, 18, 19, 20, 21] [19] [⟨some 19, none, .mv (tm 11), true⟩, ⟨some 20, none, .bin .add 3 (tm 19) (ci 1) 3, true⟩, ⟨some 21, none, .mv (tm 2), true⟩, ⟨some 22, none, .bin .lss 3 (tm 20) (tm 21) 3, true⟩, ⟨some 23, none, .mv (tm 22), true⟩, ⟨some 24, some (23, true), .mv (tm 4), true⟩, ⟨some 25, some (23, true), .mv (tm 0), true⟩, ⟨some 26, some (23, true), .mv (tm 3), true⟩, ⟨some 27, some (23, true), .mv (tm 11), true⟩, ⟨some 28, some (23, true), .bin .add 3 (tm 26) (tm 27) 3, true⟩, ⟨some 29, some (23, true), .ix 71 (tm 25) (tm 28) 64 15, true⟩, ⟨some 30, some (23, true), .ldN 64 (tm 29) 15, true⟩, ⟨some 31, some (23, true), .mv (tm 0), true⟩, ⟨some 32, some (23, true), .mv (tm 3), true⟩, ⟨some 33, some (23, true), .mv (tm 11), true⟩, ⟨some 34, some (23, true), .bin .add 3 (tm 32) (tm 33) 3, true⟩, ⟨some 35, some (23, true), .bin .add 3 (tm 34) (ci 1) 3, true⟩, ⟨some 36, some (23, true), .ix 71 (tm 31) (tm 35) 64 15, true⟩, ⟨some 37, some (23, true), .ldN 64 (tm 36) 15, true⟩, ⟨some 38, some (23, true), .callv (tm 24) [(tm 30), (tm 37)] [64, 64], false⟩, ⟨some 39, some (23, true), .bin .lss 3 (tm 38) (ci 0) 3, true⟩, ⟨some 40, none, .pick 23 (tm 39) (.const (Value.bool false)), true⟩] kR kR kR kR kR ?_
    refine r_runO ?_ ?_
    · (simp only [decide_eq_true_eq]; omega)
    refine r_callgB (res := vI (cmp d1[f + (2 * r + 1)]! d1[f + (2 * r + 1) + 1]!)) ?_ ?_ (hc := c.ok)
    · exact fun hg => c.at (d := d1) (f + (2 * r + 1)) (f + (2 * r + 1) + 1) (by omega) (by simp only [decide_eq_true_eq] at hg; omega)
    refine r_run ?_
    refine r_end [0, 1, 2, 3, 4, 10, 11, 18, 40, 58] ?_
    refine a_join (fun T σ => ∃ q : Nat, q < hi ∧ r < q ∧ siftDown (ltOf cmp) hi f r d1 = siftTo (ltOf cmp) hi f r q d1 ∧ T = [(0, .os 1000), (1, .fz (vI lo)), (2, .fz (vI hi)), (3, .fz (vI f)), (4, .fz c.fv), (10, .fz (vI r)), (11, .fz (vI q))] ∧ σ = [(1000, .rows 64 15 (rw e d1))]) ?_ ?_
    · refine c_cond (fun hb1 => ?_) (fun hb1 => ?_)
      · simp only [Bool.and_eq_true, decide_eq_true_eq] at hb1
        refine a_reg [⟨some 41, none, .mv (tm 11), false⟩, ⟨some 42, none, .bin .add 3 (tm 41) (ci 1) 3, false⟩, ⟨some 11, none, .asg (tm 42), false⟩] kR kR ?_
        refine r_run ?_
        refine r_end [0, 1, 2, 3, 4, 10, 11, 18, 40, 58] ?_
        refine a_nil ?_
        refine x_weak [0, 1, 2, 3, 4, 10, 11] ?_
        exact x_join (⟨2 * r + 1 + 1, by omega, by omega, sift_r (by omega) hb1.2, rfl, rfl⟩)
      · refine a_skip ?_
        refine a_nil ?_
        refine x_weak [0, 1, 2, 3, 4, 10, 11] ?_
        exact x_join (⟨2 * r + 1, by omega, by omega, sift_l (by omega) (fun h => by have h2 := hb1; simp at h2; exact h2 (by omega)), rfl, rfl⟩)
    · rintro T σ ⟨q, hq1, hq2, hq3, rfl, rfl⟩
      refine a_seq ?_
      refine a_seq ?_
      have hw7 : IntKind.i64.wrap ((f : Int) + (q : Int)) = ((f + q : Nat) : Int) := wrap64_nat _ _ (by omega) (by omega)
      refine a_regd [0, 1, 2, 3, 4, 5, 6, 7, 8, 9, 10, 11, 12, 13, 14, 15] [13] [⟨some 43, none, .mv (tm 4), true⟩, ⟨some 44, none, .mv (tm 0), true⟩, ⟨some 45, none, .mv (tm 3), true⟩, ⟨some 46, none, .mv (tm 10), true⟩, ⟨some 47, none, .bin .add 3 (tm 45) (tm 46) 3, true⟩, ⟨some 48, none, .ix 71 (tm 44) (tm 47) 64 15, true⟩, ⟨some 49, none, .ldN 64 (tm 48) 15, true⟩, ⟨some 50, none, .mv (tm 0), true⟩, ⟨some 51, none, .mv (tm 3), true⟩, ⟨some 52, none, .mv (tm 11), true⟩, ⟨some 53, none, .bin .add 3 (tm 51) (tm 52) 3, true⟩, ⟨some 54, none, .ix 71 (tm 50) (tm 53) 64 15, true⟩, ⟨some 55, none, .ldN 64 (tm 54) 15, true⟩, ⟨some 56, none, .callv (tm 43) [(tm 49), (tm 55)] [64, 64], false⟩, ⟨some 57, none, .bin .lss 3 (tm 56) (ci 0) 3, true⟩, ⟨some 58, none, .not 4 (tm 57), true⟩] kR kR kR kR kR ?_
      refine r_run ?_
      refine r_call (c.at (d := d1) (f + r) (f + q) (by omega) (by omega)) (hc := c.ok) ?_
      refine r_run ?_
      refine r_end [0, 1, 2, 3, 4, 10, 11, 18, 40, 58] ?_
      refine c_cond (fun hb2 => ?_) (fun hb2 => ?_)
      · simp only [Bool.not_eq_true', decide_eq_false_iff_not] at hb2
        refine a_ret ?_
        refine y_retG [] (siftDown (ltOf cmp) hi f lo d) [1000] ?_ ?_ ?_
        · exact rfl
        · exact by rw [← heq, hq3, siftTo_end (by omega)]
        · exact frep_of rfl
      · simp only [Bool.not_eq_false', decide_eq_true_eq] at hb2
        refine a_skip ?_
        refine a_seq ?_
        refine a_regd [0, 1, 2, 3, 4, 5, 6, 7, 8, 9, 10, 11, 12, 13, 14, 15, 16, 17, 18, 19, 20, 21, 22, 23] [21, 23] [⟨some 59, none, .mv (tm 0), true⟩, ⟨some 60, none, .mv (tm 3), true⟩, ⟨some 61, none, .mv (tm 10), true⟩, ⟨some 62, none, .bin .add 3 (tm 60) (tm 61) 3, true⟩, ⟨some 63, none, .mv (tm 0), true⟩, ⟨some 64, none, .mv (tm 3), true⟩, ⟨some 65, none, .mv (tm 11), true⟩, ⟨some 66, none, .bin .add 3 (tm 64) (tm 65) 3, true⟩, ⟨some 67, none, .mv (tm 0), true⟩, ⟨some 68, none, .mv (tm 3), true⟩, ⟨some 69, none, .mv (tm 11), true⟩, ⟨some 70, none, .bin .add 3 (tm 68) (tm 69) 3, true⟩, ⟨some 71, none, .ix 71 (tm 67) (tm 70) 64 15, true⟩, ⟨some 72, none, .ldN 64 (tm 71) 15, true⟩, ⟨some 73, none, .mv (tm 0), true⟩, ⟨some 74, none, .mv (tm 3), true⟩, ⟨some 75, none, .mv (tm 10), true⟩, ⟨some 76, none, .bin .add 3 (tm 74) (tm 75) 3, true⟩, ⟨some 77, none, .ix 71 (tm 73) (tm 76) 64 15, true⟩, ⟨some 78, none, .ldN 64 (tm 77) 15, true⟩, ⟨some 79, none, .ix 71 (tm 59) (tm 62) 64 15, true⟩, ⟨none, none, .stN 64 (tm 79) (tm 72) 15, false⟩, ⟨some 80, none, .ix 71 (tm 63) (tm 66) 64 15, true⟩, ⟨none, none, .stN 64 (tm 80) (tm 78) 15, false⟩] kR kR kR kR kR ?_
        refine r_runO ?_ ?_
        · (repeat' (first | exact rw_len (by omega) | exact rw_one (by omega) | refine ⟨?_, ?_⟩ | omega | trivial | (simp only [List.length_set, rw_length]; omega)))
        refine r_end [0, 1, 2, 3, 4, 10, 11, 18, 40, 58] ?_
        refine a_reg [⟨some 81, none, .mv (tm 11), false⟩, ⟨some 10, none, .asg (tm 81), false⟩] kR kR ?_
        refine r_run ?_
        refine r_end [0, 1, 2, 3, 4, 10, 11, 18, 40, 58] ?_
        refine a_nil ?_
        refine x_end ?_
        refine a_nil ?_
        refine x_weak [0, 1, 2, 3, 4, 10] ?_
        exact x_next (hi - q) (by omega) (⟨q, swp d1 (f + r) (f + q), rfl, by omega, (size_swp _ _ _).trans hs1, by rw [← heq, hq3, siftTo_go hb2], rfl, by rw [rw_swp (by omega) (by omega)]⟩)
theorem heap_ok (c : CmpFn Try.prog e cmp) (d : Array α) (a b : Nat) (hab : a ≤ b) (hb : b ≤ d.size) (hs : d.size ≤ 1000000000) : GCall Try.prog 70 [.os 1000, .fz (vI a), .fz (vI b), .fz c.fv] [(1000, .rows 64 15 (rw e d))] (Array α) (fun d' => d' = heapSort (ltOf cmp) d a b) (fun d' => [(1000, .rows 64 15 (rw e d'))]) (fun _ => .tup []) := by
  refine g_enter1 Try.func70 rfl (fun h0 => ?_)
  simp only [argG]
  have hR : ∀ d : Array α, (rw e d).length = d.size := fun _ => rw_length
  obtain ⟨n, hn⟩ : ∃ n, a + n = b := ⟨b - a, by omega⟩
  have hw1 : IntKind.i64.wrap ((b : Int) - (a : Int)) = (n : Int) := wrap64_nat _ _ (by omega) (by omega)
  have hw2 : IntKind.i64.wrap ((n : Int) - 1) = (n : Int) - 1 := wrap64_in _ (by omega) (by omega)
  have hw3 : IntKind.i64.wrap (((n : Int) - 1).tdiv 2) = (((n - 1) / 2 + 1 : Nat) : Int) - 1 := by
    have : ((n : Int) - 1).tdiv 2 = (((n - 1) / 2 + 1 : Nat) : Int) - 1 := by
      cases n with
      | zero => rfl
      | succ n => rw [Int.tdiv_eq_ediv_of_nonneg (by omega)]; omega
    rw [this, wrap64_in _ (by omega) (by omega)]
  refine a_seq ?_
  refine a_reg [⟨some 13, none, .mv (tm 1), false⟩, ⟨some 8, none, .asg (tm 13), false⟩] kR kR ?_
  refine r_run ?_
  refine r_end [0, 1, 2, 3, 8, 9, 10, 11, 12, 21, 33] ?_
  refine a_seq ?_
  refine a_reg [⟨some 9, none, .asg (ci 0), false⟩] kR kR ?_
  refine r_run ?_
  refine r_end [0, 1, 2, 3, 8, 9, 10, 11, 12, 21, 33] ?_
  refine a_seq ?_
  refine a_reg [⟨some 14, none, .mv (tm 2), false⟩, ⟨some 15, none, .mv (tm 1), false⟩, ⟨some 16, none, .bin .sub 3 (tm 14) (tm 15) 3, false⟩, ⟨some 10, none, .asg (tm 16), false⟩] kR kR ?_
  refine r_run ?_
  refine r_end [0, 1, 2, 3, 8, 9, 10, 11, 12, 21, 33] ?_
  refine a_seq ?_
  refine a_seq ?_
  refine a_reg [⟨some 17, none, .mv (tm 10), false⟩, ⟨some 18, none, .bin .sub 3 (tm 17) (ci 1) 3, false⟩, ⟨some 19, none, .bin .quo 3 (tm 18) (ci 2) 3, false⟩, ⟨some 11, none, .asg (tm 19), false⟩] kR kR ?_
  refine r_run ?_
  refine r_end [0, 1, 2, 3, 8, 9, 10, 11, 12, 21, 33] ?_
  refine a_block ?_
  refine c_weak [0, 3, 8, 9, 10, 11] ?_
  refine a_loop (fun m T σ => ∃ (k : Nat) (d1 : Array α), m = k ∧ k ≤ n + 1 ∧ d1.size = d.size ∧ heapBuild (ltOf cmp) n a k d1 = heapBuild (ltOf cmp) n a ((n - 1) / 2 + 1) d ∧ T = [(0, .os 1000), (3, .fz c.fv), (8, .fz (vI a)), (9, .fz (vI 0)), (10, .fz (vI n)), (11, .fz (vI ((k : Int) - 1)))] ∧ σ = [(1000, .rows 64 15 (rw e d1))]) ((n - 1) / 2 + 1) (⟨(n - 1) / 2 + 1, d, rfl, by omega, rfl, rfl, rfl, rfl⟩) ?_
  rintro m T σ ⟨k, d1, hmk, hk, hs1, heq, rfl, rfl⟩
  refine a_seq ?_
  refine a_seq ?_
  refine a_reg [⟨some 20, none, .mv (tm 11), false⟩, ⟨some 21, none, .bin .geq 3 (tm 20) (ci 0) 3, false⟩] kR kR ?_
  refine r_run ?_
  refine r_end [0, 1, 2, 3, 8, 9, 10, 11, 12, 21, 33] ?_
  refine c_cond (fun hb0 => ?_) (fun hb0 => ?_)
  · simp only [decide_eq_true_eq] at hb0
    have hc0 : (k : Int) - 1 = ((k - 1 : Nat) : Int) := by omega
    have hw4 : IntKind.i64.wrap (((k - 1 : Nat) : Int) - 1) = ((k - 1 : Nat) : Int) - 1 := wrap64_in _ (by omega) (by omega)
    refine a_skip ?_
    refine a_seq ?_
    refine a_block ?_
    refine a_reg [⟨some 24, none, .mv (tm 0), false⟩, ⟨some 25, none, .mv (tm 11), false⟩, ⟨some 26, none, .mv (tm 10), false⟩, ⟨some 27, none, .mv (tm 8), false⟩, ⟨some 28, none, .mv (tm 3), false⟩, ⟨some 29, none, .call 81 [(tm 24), (tm 25), (tm 26), (tm 27), (tm 28)] [71, 3, 3, 3, 109], false⟩] kR kR ?_
    refine r_run ?_
    refine r_callG [1000] (sift_ok c d1 (k - 1) n a (by omega) (by omega) (by omega)) (fun y hy => ?_)
    refine r_run ?_
    refine r_end [0, 1, 2, 3, 8, 9, 10, 11, 12, 21, 33] ?_
    subst hy
    refine a_nil ?_
    refine x_end ?_
    refine a_reg [⟨some 22, none, .mv (tm 11), false⟩, ⟨some 23, none, .bin .sub 3 (tm 22) (ci 1) 3, false⟩, ⟨some 11, none, .asg (tm 23), false⟩] kR kR ?_
    refine r_run ?_
    refine r_end [0, 1, 2, 3, 8, 9, 10, 11, 12, 21, 33] ?_
    refine a_nil ?_
    refine x_weak [0, 3, 8, 9, 10, 11] ?_
    exact x_next (k - 1) (by omega) (⟨k - 1, siftDown (ltOf cmp) n a (k - 1) d1, rfl, by omega, (sift_size _ _ _ _).trans hs1, by rw [← heq]; exact (build_go (by omega)).symm, rfl, rfl⟩)
  · simp only [decide_eq_false_iff_not] at hb0
    have hd1 : heapBuild (ltOf cmp) n a ((n - 1) / 2 + 1) d = d1 := by rw [← heq, (by omega : k = 0)]; rfl
    refine a_exit ?_
    refine x_then ?_
    refine x_here ?_
    refine a_seq ?_
    refine a_reg [⟨some 30, none, .mv (tm 10), false⟩, ⟨some 31, none, .bin .sub 3 (tm 30) (ci 1) 3, false⟩, ⟨some 12, none, .asg (tm 31), false⟩] kR kR ?_
    refine r_run ?_
    refine r_end [0, 1, 2, 3, 8, 9, 10, 11, 12, 21, 33] ?_
    refine a_block ?_
    refine c_weak [0, 3, 8, 9, 12] ?_
    refine a_loop (fun m T σ => ∃ (k : Nat) (d2 : Array α), m = k ∧ k ≤ n ∧ d2.size = d.size ∧ heapPop (ltOf cmp) a k d2 = heapPop (ltOf cmp) a n d1 ∧ T = [(0, .os 1000), (3, .fz c.fv), (8, .fz (vI a)), (9, .fz (vI 0)), (12, .fz (vI ((k : Int) - 1)))] ∧ σ = [(1000, .rows 64 15 (rw e d2))]) (n) (⟨n, d1, rfl, by omega, hs1, rfl, rfl, rfl⟩) ?_
    rintro m T σ ⟨k2, d2, hmk2, hk2, hs2, heq2, rfl, rfl⟩
    refine a_seq ?_
    refine a_seq ?_
    refine a_reg [⟨some 32, none, .mv (tm 12), false⟩, ⟨some 33, none, .bin .geq 3 (tm 32) (ci 0) 3, false⟩] kR kR ?_
    refine r_run ?_
    refine r_end [0, 1, 2, 3, 8, 9, 10, 11, 12, 21, 33] ?_
    refine c_cond (fun hb1 => ?_) (fun hb1 => ?_)
    · simp only [decide_eq_true_eq] at hb1
      have hc1 : (k2 : Int) - 1 = ((k2 - 1 : Nat) : Int) := by omega
      have hw4 : IntKind.i64.wrap (((k2 - 1 : Nat) : Int) - 1) = ((k2 - 1 : Nat) : Int) - 1 := wrap64_in _ (by omega) (by omega)
      have hw5 : IntKind.i64.wrap ((a : Int) + ((k2 - 1 : Nat) : Int)) = ((a + (k2 - 1) : Nat) : Int) := wrap64_nat _ _ (by omega) (by omega)
      refine a_skip ?_
      refine a_seq ?_
      refine a_block ?_
      refine a_seq ?_
      refine a_regd [0, 1, 2, 3, 4, 5, 6, 7, 8, 9, 10, 11, 12, 13, 14, 15, 16, 17, 18, 19] [17, 19] [⟨some 36, none, .mv (tm 0), true⟩, ⟨some 37, none, .mv (tm 8), true⟩, ⟨some 38, none, .mv (tm 0), true⟩, ⟨some 39, none, .mv (tm 8), true⟩, ⟨some 40, none, .mv (tm 12), true⟩, ⟨some 41, none, .bin .add 3 (tm 39) (tm 40) 3, true⟩, ⟨some 42, none, .mv (tm 0), true⟩, ⟨some 43, none, .mv (tm 8), true⟩, ⟨some 44, none, .mv (tm 12), true⟩, ⟨some 45, none, .bin .add 3 (tm 43) (tm 44) 3, true⟩, ⟨some 46, none, .ix 71 (tm 42) (tm 45) 64 15, true⟩, ⟨some 47, none, .ldN 64 (tm 46) 15, true⟩, ⟨some 48, none, .mv (tm 0), true⟩, ⟨some 49, none, .mv (tm 8), true⟩, ⟨some 50, none, .ix 71 (tm 48) (tm 49) 64 15, true⟩, ⟨some 51, none, .ldN 64 (tm 50) 15, true⟩, ⟨some 52, none, .ix 71 (tm 36) (tm 37) 64 15, true⟩, ⟨none, none, .stN 64 (tm 52) (tm 47) 15, false⟩, ⟨some 53, none, .ix 71 (tm 38) (tm 41) 64 15, true⟩, ⟨none, none, .stN 64 (tm 53) (tm 51) 15, false⟩] kR kR kR kR kR ?_
      refine r_runO ?_ ?_
      · (repeat' (first | exact rw_len (by omega) | exact rw_one (by omega) | refine ⟨?_, ?_⟩ | omega | trivial | (simp only [List.length_set, rw_length]; omega)))
      refine r_end [0, 1, 2, 3, 8, 9, 10, 11, 12, 21, 33] ?_
      have hsw := rw_swp (e := e) (d := d2) (i := a) (j := a + (k2 - 1)) (by omega) (by omega)
      refine a_reg [⟨some 54, none, .mv (tm 0), false⟩, ⟨some 55, none, .mv (tm 9), false⟩, ⟨some 56, none, .mv (tm 12), false⟩, ⟨some 57, none, .mv (tm 8), false⟩, ⟨some 58, none, .mv (tm 3), false⟩, ⟨some 59, none, .call 81 [(tm 54), (tm 55), (tm 56), (tm 57), (tm 58)] [71, 3, 3, 3, 109], false⟩] kR kR ?_
      refine r_run ?_
      refine r_callG [1000] (sift_ok c (swp d2 a (a + (k2 - 1))) 0 (k2 - 1) a (by rw [size_swp]; omega) (by rw [size_swp]; omega) (by omega)) (fun y hy => ?_)
      refine r_run ?_
      refine r_end [0, 1, 2, 3, 8, 9, 10, 11, 12, 21, 33] ?_
      subst hy
      refine a_nil ?_
      refine x_end ?_
      refine a_reg [⟨some 34, none, .mv (tm 12), false⟩, ⟨some 35, none, .bin .sub 3 (tm 34) (ci 1) 3, false⟩, ⟨some 12, none, .asg (tm 35), false⟩] kR kR ?_
      refine r_run ?_
      refine r_end [0, 1, 2, 3, 8, 9, 10, 11, 12, 21, 33] ?_
      refine a_nil ?_
      refine x_weak [0, 3, 8, 9, 12] ?_
      exact x_next (k2 - 1) (by omega) (⟨k2 - 1, siftDown (ltOf cmp) (k2 - 1) a 0 (swp d2 a (a + (k2 - 1))), rfl, by omega, (sift_size _ _ _ _).trans ((size_swp _ _ _).trans hs2), by rw [← heq2]; exact (pop_go (by omega)).symm, rfl, rfl⟩)
    · simp only [decide_eq_false_iff_not] at hb1
      refine a_exit ?_
      refine x_then ?_
      refine x_here ?_
      refine a_nil ?_
      refine y_retG [] (heapSort (ltOf cmp) d a b) [1000] ?_ ?_ ?_
      · exact rfl
      · exact by rw [heap_eq (by omega : n = b - a), hd1, ← heq2, (by omega : k2 = 0)]; rfl
      · exact frep_of rfl
end
end Go.Proofs.Ytielfejpnkcjbaa.SortE

/- Sorting rivulet/age.Entry: the pivot. -/
set_option linter.unusedVariables false
set_option linter.unusedSimpArgs false
namespace Go.Proofs.Ytielfejpnkcjbaa.SortE
open Sl Ab Go.Sort
section
variable {α : Type} [Inhabited α] {e : Enc α 15} {cmp : α → α → Int}
theorem order2_ok (c : CmpFn Try.prog e cmp) (d : Array α) (a b s : Nat) (ha : a < d.size) (hb : b < d.size) (hs : d.size ≤ 1000000000) (hk : s ≤ 1000) : GCall Try.prog 94 [.os 1000, .fz (vI a), .fz (vI b), .oe 1001 1 0 0, .fz c.fv] [(1000, .rows 64 15 (rw e d)), (1001, .box 3 [.fz (vI s)])] (Nat × Nat × Nat) (fun y => y = order2 (ltOf cmp) d a b s) (fun y => [(1000, .rows 64 15 (rw e d)), (1001, .box 3 [.fz (vI y.2.2)])]) (fun y => .tup [vI y.1, vI y.2.1]) := by
  refine g_enter2 Try.func94 rfl (fun h0 => ?_)
  simp only [argG]
  have hR : ∀ d : Array α, (rw e d).length = d.size := fun _ => rw_length
  have hw : IntKind.i64.wrap ((s : Int) + 1) = ((s + 1 : Nat) : Int) := wrap64_nat _ _ (by omega) (by omega)
  refine a_seq ?_
  refine a_reg [⟨some 10, none, .asg (ci 0), false⟩, ⟨some 11, none, .asg (ci 0), false⟩] kR kR ?_
  refine r_run ?_
  refine r_end [0, 1, 2, 3, 4, 10, 11, 22] ?_
  refine a_seq ?_
  refine a_seq ?_
  refine a_regd [0, 1, 2, 3, 4, 5, 6, 7, 8, 9, 10] [9] [⟨some 12, none, .mv (tm 4), true⟩, ⟨some 13, none, .mv (tm 0), true⟩, ⟨some 14, none, .mv (tm 2), true⟩, ⟨some 15, none, .ix 71 (tm 13) (tm 14) 64 15, true⟩, ⟨some 16, none, .ldN 64 (tm 15) 15, true⟩, ⟨some 17, none, .mv (tm 0), true⟩, ⟨some 18, none, .mv (tm 1), true⟩, ⟨some 19, none, .ix 71 (tm 17) (tm 18) 64 15, true⟩, ⟨some 20, none, .ldN 64 (tm 19) 15, true⟩, ⟨some 21, none, .callv (tm 12) [(tm 16), (tm 20)] [64, 64], false⟩, ⟨some 22, none, .bin .lss 3 (tm 21) (ci 0) 3, true⟩] kR kR kR kR kR ?_
  refine r_run ?_
  refine r_call (c.at (d := d) b a (by omega) (by omega)) (hc := c.ok) ?_
  refine r_run ?_
  refine r_end [0, 1, 2, 3, 4, 10, 11, 22] ?_
  refine c_cond (fun hb0 => ?_) (fun hb0 => ?_)
  · refine a_seq ?_
    refine a_reg [⟨some 23, none, .mv (tm 3), false⟩, ⟨some 24, none, .nilc (tm 23), false⟩, ⟨some 25, none, .ld 3 (tm 24), false⟩, ⟨some 26, none, .bin .add 3 (tm 25) (ci 1) 3, false⟩, ⟨some 27, none, .nilc (tm 23), false⟩, ⟨none, none, .st 3 (tm 27) (tm 26), false⟩] kR kR ?_
    refine r_run ?_
    refine r_end [0, 1, 2, 3, 4, 10, 11, 22] ?_
    refine a_seq ?_
    refine a_reg [⟨some 28, none, .mv (tm 2), false⟩, ⟨some 29, none, .mv (tm 1), false⟩, ⟨some 10, none, .asg (tm 28), false⟩, ⟨some 11, none, .asg (tm 29), false⟩] kR kR ?_
    refine r_run ?_
    refine r_end [0, 1, 2, 3, 4, 10, 11, 22] ?_
    refine a_ret ?_
    refine y_retG [(.tmp 10, none), (.tmp 11, none)] ((b, a, s + 1)) [1000, 1001] ?_ ?_ ?_
    · exact by have h := hb0; simp only [decide_eq_true_eq] at h; simp [order2, ltOf, h]
    · exact rfl
    · exact frep_of rfl
  · refine a_skip ?_
    refine a_seq ?_
    refine a_reg [⟨some 30, none, .mv (tm 1), false⟩, ⟨some 31, none, .mv (tm 2), false⟩, ⟨some 10, none, .asg (tm 30), false⟩, ⟨some 11, none, .asg (tm 31), false⟩] kR kR ?_
    refine r_run ?_
    refine r_end [0, 1, 2, 3, 4, 10, 11, 22] ?_
    refine a_ret ?_
    refine y_retG [(.tmp 10, none), (.tmp 11, none)] ((a, b, s)) [1000, 1001] ?_ ?_ ?_
    · exact by have h := hb0; simp only [decide_eq_false_iff_not] at h; simp [order2, ltOf, h]
    · exact rfl
    · exact frep_of rfl
theorem median_ok (c : CmpFn Try.prog e cmp) (d : Array α) (a b k s : Nat) (ha : a < d.size) (hb : b < d.size) (hkk : k < d.size) (hs : d.size ≤ 1000000000) (hk : s ≤ 900) : GCall Try.prog 85 [.os 1000, .fz (vI a), .fz (vI b), .fz (vI k), .oe 1001 1 0 0, .fz c.fv] [(1000, .rows 64 15 (rw e d)), (1001, .box 3 [.fz (vI s)])] (Nat × Nat) (fun y => y = median (ltOf cmp) d a b k s) (fun y => [(1000, .rows 64 15 (rw e d)), (1001, .box 3 [.fz (vI y.2)])]) (fun y => vI y.1) := by
  refine g_enter2 Try.func85 rfl (fun h0 => ?_)
  simp only [argG]
  have hm1 := order2_mem (ltOf cmp) d a b s
  have hc1 := order2_count (lt := ltOf cmp) d a b s
  generalize h1 : order2 (ltOf cmp) d a b s = r1 at hm1 hc1
  have hm2 := order2_mem (ltOf cmp) d r1.2.1 k r1.2.2
  have hc2 := order2_count (lt := ltOf cmp) d r1.2.1 k r1.2.2
  generalize h2 : order2 (ltOf cmp) d r1.2.1 k r1.2.2 = r2 at hm2 hc2
  have hm3 := order2_mem (ltOf cmp) d r1.1 r2.1 r2.2.2
  have hM : median (ltOf cmp) d a b k s = ((order2 (ltOf cmp) d r1.1 r2.1 r2.2.2).2.1, (order2 (ltOf cmp) d r1.1 r2.1 r2.2.2).2.2) := by rw [← h2, ← h1]; rfl
  generalize h3 : order2 (ltOf cmp) d r1.1 r2.1 r2.2.2 = r3 at hM hm3
  refine a_seq ?_
  refine a_reg [⟨some 12, none, .asg (ci 0), false⟩] kR kR ?_
  refine r_run ?_
  refine r_end [0, 1, 2, 3, 4, 5, 12] ?_
  refine a_seq ?_
  refine a_reg [⟨some 14, none, .mv (tm 0), false⟩, ⟨some 15, none, .mv (tm 1), false⟩, ⟨some 16, none, .mv (tm 2), false⟩, ⟨some 17, none, .mv (tm 4), false⟩, ⟨some 18, none, .mv (tm 5), false⟩, ⟨some 19, none, .call 94 [(tm 14), (tm 15), (tm 16), (tm 17), (tm 18)] [71, 3, 3, 142, 109], false⟩, ⟨some 13, none, .mv (tm 19), false⟩, ⟨some 20, none, .ext (tm 13) 0, false⟩, ⟨some 21, none, .ext (tm 13) 1, false⟩, ⟨some 1, none, .asg (tm 20), false⟩, ⟨some 2, none, .asg (tm 21), false⟩] kR kR ?_
  refine r_run ?_
  refine r_callG [1000, 1001] (order2_ok c d a b s ha hb hs (by omega)) (fun y1 hy1 => ?_)
  rw [h1] at hy1; subst hy1
  refine r_run ?_
  refine r_end [0, 1, 2, 3, 4, 5, 12] ?_
  refine a_seq ?_
  refine a_reg [⟨some 23, none, .mv (tm 0), false⟩, ⟨some 24, none, .mv (tm 2), false⟩, ⟨some 25, none, .mv (tm 3), false⟩, ⟨some 26, none, .mv (tm 4), false⟩, ⟨some 27, none, .mv (tm 5), false⟩, ⟨some 28, none, .call 94 [(tm 23), (tm 24), (tm 25), (tm 26), (tm 27)] [71, 3, 3, 142, 109], false⟩, ⟨some 22, none, .mv (tm 28), false⟩, ⟨some 29, none, .ext (tm 22) 0, false⟩, ⟨some 30, none, .ext (tm 22) 1, false⟩, ⟨some 2, none, .asg (tm 29), false⟩, ⟨some 3, none, .asg (tm 30), false⟩] kR kR ?_
  refine r_run ?_
  refine r_callG [1000, 1001] (order2_ok c d y1.2.1 k y1.2.2 (by omega) hkk hs (by omega)) (fun y2 hy2 => ?_)
  rw [h2] at hy2; subst hy2
  refine r_run ?_
  refine r_end [0, 1, 2, 3, 4, 5, 12] ?_
  refine a_seq ?_
  refine a_reg [⟨some 32, none, .mv (tm 0), false⟩, ⟨some 33, none, .mv (tm 1), false⟩, ⟨some 34, none, .mv (tm 2), false⟩, ⟨some 35, none, .mv (tm 4), false⟩, ⟨some 36, none, .mv (tm 5), false⟩, ⟨some 37, none, .call 94 [(tm 32), (tm 33), (tm 34), (tm 35), (tm 36)] [71, 3, 3, 142, 109], false⟩, ⟨some 31, none, .mv (tm 37), false⟩, ⟨some 38, none, .ext (tm 31) 0, false⟩, ⟨some 39, none, .ext (tm 31) 1, false⟩, ⟨some 1, none, .asg (tm 38), false⟩, ⟨some 2, none, .asg (tm 39), false⟩] kR kR ?_
  refine r_run ?_
  refine r_callG [1000, 1001] (order2_ok c d y1.1 y2.1 y2.2.2 (by omega) (by omega) hs (by omega)) (fun y3 hy3 => ?_)
  rw [h3] at hy3; subst hy3
  refine r_run ?_
  refine r_end [0, 1, 2, 3, 4, 5, 12] ?_
  refine a_seq ?_
  refine a_reg [⟨some 40, none, .mv (tm 2), false⟩, ⟨some 12, none, .asg (tm 40), false⟩] kR kR ?_
  refine r_run ?_
  refine r_end [0, 1, 2, 3, 4, 5, 12] ?_
  refine a_ret ?_
  refine y_retG1 (.tmp 12) (none) ((y3.2.1, y3.2.2)) [1000, 1001] ?_ ?_ ?_
  · exact hM.symm
  · exact rfl
  · exact frep_of rfl
theorem medAdj_ok (c : CmpFn Try.prog e cmp) (d : Array α) (a s : Nat) (h0a : 0 < a) (ha : a + 1 < d.size) (hs : d.size ≤ 1000000000) (hk : s ≤ 900) : GCall Try.prog 84 [.os 1000, .fz (vI a), .oe 1001 1 0 0, .fz c.fv] [(1000, .rows 64 15 (rw e d)), (1001, .box 3 [.fz (vI s)])] (Nat × Nat) (fun y => y = medianAdjacent (ltOf cmp) d a s) (fun y => [(1000, .rows 64 15 (rw e d)), (1001, .box 3 [.fz (vI y.2)])]) (fun y => vI y.1) := by
  refine g_enter2 Try.func84 rfl (fun h0 => ?_)
  simp only [argG]
  have hw1 : IntKind.i64.wrap ((a : Int) - 1) = ((a - 1 : Nat) : Int) := wrap64_nat _ _ (by omega) (by omega)
  have hw2 : IntKind.i64.wrap ((a : Int) + 1) = ((a + 1 : Nat) : Int) := wrap64_nat _ _ (by omega) (by omega)
  refine a_seq ?_
  refine a_reg [⟨some 8, none, .asg (ci 0), false⟩] kR kR ?_
  refine r_run ?_
  refine r_end [0, 1, 2, 3, 8] ?_
  refine a_seq ?_
  refine a_reg [⟨some 9, none, .mv (tm 0), false⟩, ⟨some 10, none, .mv (tm 1), false⟩, ⟨some 11, none, .bin .sub 3 (tm 10) (ci 1) 3, false⟩, ⟨some 12, none, .mv (tm 1), false⟩, ⟨some 13, none, .mv (tm 1), false⟩, ⟨some 14, none, .bin .add 3 (tm 13) (ci 1) 3, false⟩, ⟨some 15, none, .mv (tm 2), false⟩, ⟨some 16, none, .mv (tm 3), false⟩, ⟨some 17, none, .call 85 [(tm 9), (tm 11), (tm 12), (tm 14), (tm 15), (tm 16)] [71, 3, 3, 3, 142, 109], false⟩, ⟨some 8, none, .asg (tm 17), false⟩] kR kR ?_
  refine r_run ?_
  refine r_callG [1000, 1001] (median_ok c d (a - 1) a (a + 1) s (by omega) (by omega) (by omega) hs hk) (fun y hy => ?_)
  subst hy
  refine r_run ?_
  refine r_end [0, 1, 2, 3, 8] ?_
  refine a_ret ?_
  refine y_retG1 (.tmp 8) (none) ((medianAdjacent (ltOf cmp) d a s)) [1000, 1001] ?_ ?_ ?_
  · exact rfl
  · exact rfl
  · exact frep_of rfl
theorem choose_ok (c : CmpFn Try.prog e cmp) (d : Array α) (a b : Nat) (hab : a < b) (hb : b ≤ d.size) (hs : d.size ≤ 1000000000) : GCall Try.prog 72 [.os 1000, .fz (vI a), .fz (vI b), .fz c.fv] [(1000, .rows 64 15 (rw e d))] (Nat × Int) (fun y => a ≤ y.1 ∧ y.1 < b) (fun y => [(1000, .rows 64 15 (rw e d))]) (fun y => .tup [vI y.1, vI y.2]) := by
  refine g_enter1 Try.func72 rfl (fun h0 => ?_)
  simp only [argG]
  obtain ⟨l, hl⟩ : ∃ l, a + l = b := ⟨b - a, by omega⟩
  obtain ⟨q, hq⟩ : ∃ q, q = l / 4 := ⟨_, rfl⟩
  have hq4 : 4 * q ≤ l := by omega
  have hq5 : l < 4 * q + 4 := by omega
  have hz : ((0 : Nat) : Int) = 0 := rfl
  have hw1 : IntKind.i64.wrap ((b : Int) - (a : Int)) = (l : Int) := wrap64_nat _ _ (by omega) (by omega)
  have hw2 : IntKind.i64.wrap ((l : Int).tdiv 4) = (q : Int) := by
    rw [show (l : Int).tdiv 4 = (q : Int) by rw [Int.tdiv_eq_ediv_of_nonneg (by omega)]; omega]
    exact wrap64_nat _ _ (by omega) (by omega)
  have hw3 : IntKind.i64.wrap ((q : Int) * 1) = (q : Int) := wrap64_nat _ _ (by omega) (by omega)
  have hw4 : IntKind.i64.wrap ((q : Int) * 2) = ((q * 2 : Nat) : Int) := wrap64_nat _ _ (by omega) (by omega)
  have hw5 : IntKind.i64.wrap ((q : Int) * 3) = ((q * 3 : Nat) : Int) := wrap64_nat _ _ (by omega) (by omega)
  have hw6 : IntKind.i64.wrap ((a : Int) + (q : Int)) = ((a + q : Nat) : Int) := wrap64_nat _ _ (by omega) (by omega)
  have hw7 : IntKind.i64.wrap ((a : Int) + ((q * 2 : Nat) : Int)) = ((a + q * 2 : Nat) : Int) := wrap64_nat _ _ (by omega) (by omega)
  have hw8 : IntKind.i64.wrap ((a : Int) + ((q * 3 : Nat) : Int)) = ((a + q * 3 : Nat) : Int) := wrap64_nat _ _ (by omega) (by omega)
  clear hq
  refine a_seq ?_
  refine a_reg [⟨some 8, none, .asg (ci 0), false⟩, ⟨some 9, none, .asg (ci 0), false⟩] kR kR ?_
  refine r_run ?_
  refine r_end [0, 1, 2, 3, 8, 9, 10, 11, 12, 13, 14, 34, 36, 55, 57, 60] ?_
  refine a_seq ?_
  refine a_reg [⟨some 15, none, .mv (tm 2), false⟩, ⟨some 16, none, .mv (tm 1), false⟩, ⟨some 17, none, .bin .sub 3 (tm 15) (tm 16) 3, false⟩, ⟨some 10, none, .asg (tm 17), false⟩] kR kR ?_
  refine r_run ?_
  refine r_end [0, 1, 2, 3, 8, 9, 10, 11, 12, 13, 14, 34, 36, 55, 57, 60] ?_
  refine a_seq ?_
  refine a_reg [⟨some 11, none, .alc 3 [.int .i64 0] false, false⟩] kR kR ?_
  refine r_run ?_
  refine r_end [0, 1, 2, 3, 8, 9, 10, 11, 12, 13, 14, 34, 36, 55, 57, 60] ?_
  refine a_seq ?_
  refine a_reg [⟨some 18, none, .mv (tm 1), false⟩, ⟨some 19, none, .mv (tm 10), false⟩, ⟨some 20, none, .bin .quo 3 (tm 19) (ci 4) 3, false⟩, ⟨some 21, none, .bin .mul 3 (tm 20) (ci 1) 3, false⟩, ⟨some 22, none, .bin .add 3 (tm 18) (tm 21) 3, false⟩, ⟨some 12, none, .asg (tm 22), false⟩] kR kR ?_
  refine r_run ?_
  refine r_end [0, 1, 2, 3, 8, 9, 10, 11, 12, 13, 14, 34, 36, 55, 57, 60] ?_
  refine a_seq ?_
  refine a_reg [⟨some 23, none, .mv (tm 1), false⟩, ⟨some 24, none, .mv (tm 10), false⟩, ⟨some 25, none, .bin .quo 3 (tm 24) (ci 4) 3, false⟩, ⟨some 26, none, .bin .mul 3 (tm 25) (ci 2) 3, false⟩, ⟨some 27, none, .bin .add 3 (tm 23) (tm 26) 3, false⟩, ⟨some 13, none, .asg (tm 27), false⟩] kR kR ?_
  refine r_run ?_
  refine r_end [0, 1, 2, 3, 8, 9, 10, 11, 12, 13, 14, 34, 36, 55, 57, 60] ?_
  refine a_seq ?_
  refine a_reg [⟨some 28, none, .mv (tm 1), false⟩, ⟨some 29, none, .mv (tm 10), false⟩, ⟨some 30, none, .bin .quo 3 (tm 29) (ci 4) 3, false⟩, ⟨some 31, none, .bin .mul 3 (tm 30) (ci 3) 3, false⟩, ⟨some 32, none, .bin .add 3 (tm 28) (tm 31) 3, false⟩, ⟨some 14, none, .asg (tm 32), false⟩] kR kR ?_
  refine r_run ?_
  refine r_end [0, 1, 2, 3, 8, 9, 10, 11, 12, 13, 14, 34, 36, 55, 57, 60] ?_
  refine a_seq ?_
  refine a_seq ?_
  refine a_reg [⟨some 33, none, .mv (tm 10), false⟩, ⟨some 34, none, .bin .geq 3 (tm 33) (ci 8) 3, false⟩] kR kR ?_
  refine r_run ?_
  refine r_end [0, 1, 2, 3, 8, 9, 10, 11, 12, 13, 14, 34, 36, 55, 57, 60] ?_
  refine a_join (fun T σ => ∃ p s : Nat, a ≤ p ∧ p < b ∧ T = [(0, .os 1000), (1, .fz (vI a)), (2, .fz (vI b)), (3, .fz c.fv), (8, .fz (vI 0)), (9, .fz (vI 0)), (11, .oe 11 1 0 0), (13, .fz (vI p))] ∧ σ = [(11, .box 3 [.fz (vI s)]), (1000, .rows 64 15 (rw e d))]) ?_ ?_
  · refine c_cond (fun hb0 => ?_) (fun hb0 => ?_)
    · simp only [decide_eq_true_eq] at hb0
      refine a_seq ?_
      refine a_seq ?_
      refine a_reg [⟨some 35, none, .mv (tm 10), false⟩, ⟨some 36, none, .bin .geq 3 (tm 35) (ci 50) 3, false⟩] kR kR ?_
      refine r_run ?_
      refine r_end [0, 1, 2, 3, 8, 9, 10, 11, 12, 13, 14, 34, 36, 55, 57, 60] ?_
      refine a_join (fun T σ => ∃ i j k s : Nat, a ≤ i ∧ i < b ∧ a ≤ j ∧ j < b ∧ a ≤ k ∧ k < b ∧ s ≤ 9 ∧ T = [(0, .os 1000), (1, .fz (vI a)), (2, .fz (vI b)), (3, .fz c.fv), (8, .fz (vI 0)), (9, .fz (vI 0)), (11, .oe 11 1 0 0), (12, .fz (vI i)), (13, .fz (vI j)), (14, .fz (vI k))] ∧ σ = [(11, .box 3 [.fz (vI s)]), (1000, .rows 64 15 (rw e d))]) ?_ ?_
      · refine c_cond (fun hb1 => ?_) (fun hb1 => ?_)
        · simp only [decide_eq_true_eq] at hb1
          refine a_seq ?_
          refine a_reg [⟨some 37, none, .mv (tm 0), false⟩, ⟨some 38, none, .mv (tm 12), false⟩, ⟨some 39, none, .mv (tm 3), false⟩, ⟨some 40, none, .call 84 [(tm 37), (tm 38), (tm 11), (tm 39)] [71, 3, 142, 109], false⟩, ⟨some 12, none, .asg (tm 40), false⟩] kR kR ?_
          refine r_run ?_
          refine r_callG [1000, 11] (medAdj_ok c d (a + q) 0 (by omega) (by omega) hs (by omega)) (fun y1 hy1 => ?_)
          have hm1 := medianAdjacent_mem (ltOf cmp) d (a + q) 0
          have hc1 := medianAdjacent_count (lt := ltOf cmp) d (a + q) 0
          rw [← hy1] at hm1 hc1
          have hr1 : a ≤ y1.1 ∧ y1.1 < b ∧ y1.2 ≤ 3 := by clear hw1 hw2 hw3 hw4 hw5 hw6 hw7 hw8; omega
          clear hy1 hm1 hc1
          refine r_run ?_
          refine r_end [0, 1, 2, 3, 8, 9, 10, 11, 12, 13, 14, 34, 36, 55, 57, 60] ?_
          refine a_seq ?_
          refine a_reg [⟨some 41, none, .mv (tm 0), false⟩, ⟨some 42, none, .mv (tm 13), false⟩, ⟨some 43, none, .mv (tm 3), false⟩, ⟨some 44, none, .call 84 [(tm 41), (tm 42), (tm 11), (tm 43)] [71, 3, 142, 109], false⟩, ⟨some 13, none, .asg (tm 44), false⟩] kR kR ?_
          refine r_run ?_
          refine r_callG [1000, 11] (medAdj_ok c d (a + q * 2) y1.2 (by omega) (by omega) hs (by omega)) (fun y2 hy2 => ?_)
          have hm2 := medianAdjacent_mem (ltOf cmp) d (a + q * 2) y1.2
          have hc2 := medianAdjacent_count (lt := ltOf cmp) d (a + q * 2) y1.2
          rw [← hy2] at hm2 hc2
          have hr2 : a ≤ y2.1 ∧ y2.1 < b ∧ y2.2 ≤ 6 := by clear hw1 hw2 hw3 hw4 hw5 hw6 hw7 hw8; omega
          clear hy2 hm2 hc2
          refine r_run ?_
          refine r_end [0, 1, 2, 3, 8, 9, 10, 11, 12, 13, 14, 34, 36, 55, 57, 60] ?_
          refine a_reg [⟨some 45, none, .mv (tm 0), false⟩, ⟨some 46, none, .mv (tm 14), false⟩, ⟨some 47, none, .mv (tm 3), false⟩, ⟨some 48, none, .call 84 [(tm 45), (tm 46), (tm 11), (tm 47)] [71, 3, 142, 109], false⟩, ⟨some 14, none, .asg (tm 48), false⟩] kR kR ?_
          refine r_run ?_
          refine r_callG [1000, 11] (medAdj_ok c d (a + q * 3) y2.2 (by omega) (by omega) hs (by omega)) (fun y3 hy3 => ?_)
          have hm3 := medianAdjacent_mem (ltOf cmp) d (a + q * 3) y2.2
          have hc3 := medianAdjacent_count (lt := ltOf cmp) d (a + q * 3) y2.2
          rw [← hy3] at hm3 hc3
          have hr3 : a ≤ y3.1 ∧ y3.1 < b ∧ y3.2 ≤ 9 := by clear hw1 hw2 hw3 hw4 hw5 hw6 hw7 hw8; omega
          clear hy3 hm3 hc3
          refine r_run ?_
          refine r_end [0, 1, 2, 3, 8, 9, 10, 11, 12, 13, 14, 34, 36, 55, 57, 60] ?_
          refine a_nil ?_
          refine x_weak [0, 1, 2, 3, 8, 9, 11, 12, 13, 14] ?_
          exact x_join (⟨y1.1, y2.1, y3.1, y3.2, hr1.1, hr1.2.1, hr2.1, hr2.2.1, hr3.1, hr3.2.1, hr3.2.2, rfl, rfl⟩)
        · refine a_skip ?_
          refine a_nil ?_
          refine x_weak [0, 1, 2, 3, 8, 9, 11, 12, 13, 14] ?_
          exact x_join (⟨a + q, a + q * 2, a + q * 3, 0, by omega, by omega, by omega, by omega, by omega, by omega, by omega, rfl, rfl⟩)
      · rintro T σ ⟨i, j, k, s, hi1, hi2, hj1, hj2, hk1, hk2, hs9, rfl, rfl⟩
        refine a_reg [⟨some 49, none, .mv (tm 0), false⟩, ⟨some 50, none, .mv (tm 12), false⟩, ⟨some 51, none, .mv (tm 13), false⟩, ⟨some 52, none, .mv (tm 14), false⟩, ⟨some 53, none, .mv (tm 3), false⟩, ⟨some 54, none, .call 85 [(tm 49), (tm 50), (tm 51), (tm 52), (tm 11), (tm 53)] [71, 3, 3, 3, 142, 109], false⟩, ⟨some 13, none, .asg (tm 54), false⟩] kR kR ?_
        refine r_run ?_
        refine r_callG [1000, 11] (median_ok c d i j k s (by omega) (by omega) (by omega) hs (by omega)) (fun y4 hy4 => ?_)
        have hm4 := median_mem (ltOf cmp) d i j k s
        rw [← hy4] at hm4
        have hr4 : a ≤ y4.1 ∧ y4.1 < b := by clear hw1 hw2 hw3 hw4 hw5 hw6 hw7 hw8; omega
        clear hy4 hm4
        refine r_run ?_
        refine r_end [0, 1, 2, 3, 8, 9, 10, 11, 12, 13, 14, 34, 36, 55, 57, 60] ?_
        refine a_nil ?_
        refine x_weak [0, 1, 2, 3, 8, 9, 11, 13] ?_
        exact x_join (⟨y4.1, y4.2, hr4.1, hr4.2, rfl, rfl⟩)
    · refine a_skip ?_
      refine a_nil ?_
      refine x_weak [0, 1, 2, 3, 8, 9, 11, 13] ?_
      exact x_join (⟨a + q * 2, 0, by omega, by omega, rfl, rfl⟩)
  · rintro T σ ⟨p, s, hp1, hp2, rfl, rfl⟩
    refine a_seq ?_
    refine a_reg [⟨some 55, none, .ld 3 (tm 11), false⟩] kR kR ?_
    refine r_run ?_
    refine r_end [0, 1, 2, 3, 8, 9, 10, 11, 12, 13, 14, 34, 36, 55, 57, 60] ?_
    refine a_block ?_
    refine a_seq ?_
    refine a_reg [⟨some 58, none, .bin .eql 3 (tm 55) (ci 0) 3, false⟩, ⟨some 57, none, .asg (tm 58), false⟩] kR kR ?_
    refine r_run ?_
    refine r_end [0, 1, 2, 3, 8, 9, 10, 11, 12, 13, 14, 34, 36, 55, 57, 60] ?_
    refine c_cond (fun hb2 => ?_) (fun hb2 => ?_)
    · refine a_seq ?_
      refine a_reg [⟨some 59, none, .mv (tm 13), false⟩, ⟨some 8, none, .asg (tm 59), false⟩, ⟨some 9, none, .asg (ci 1), false⟩] kR kR ?_
      refine r_run ?_
      refine r_end [0, 1, 2, 3, 8, 9, 10, 11, 12, 13, 14, 34, 36, 55, 57, 60] ?_
      refine a_ret ?_
      refine y_retG [(.tmp 8, none), (.tmp 9, none)] ((p, (1 : Int))) [1000] ?_ ?_ ?_
      · exact ⟨hp1, hp2⟩
      · exact rfl
      · exact frep_of rfl
    · refine a_seq ?_
      refine a_reg [⟨some 61, none, .bin .eql 3 (tm 55) (ci 12) 3, false⟩, ⟨some 60, none, .asg (tm 61), false⟩] kR kR ?_
      refine r_run ?_
      refine r_end [0, 1, 2, 3, 8, 9, 10, 11, 12, 13, 14, 34, 36, 55, 57, 60] ?_
      refine c_cond (fun hb3 => ?_) (fun hb3 => ?_)
      · refine a_seq ?_
        refine a_reg [⟨some 62, none, .mv (tm 13), false⟩, ⟨some 8, none, .asg (tm 62), false⟩, ⟨some 9, none, .asg (ci 2), false⟩] kR kR ?_
        refine r_run ?_
        refine r_end [0, 1, 2, 3, 8, 9, 10, 11, 12, 13, 14, 34, 36, 55, 57, 60] ?_
        refine a_ret ?_
        refine y_retG [(.tmp 8, none), (.tmp 9, none)] ((p, (2 : Int))) [1000] ?_ ?_ ?_
        · exact ⟨hp1, hp2⟩
        · exact rfl
        · exact frep_of rfl
      · refine a_seq ?_
        refine a_reg [⟨some 56, none, .mv (tm 13), false⟩, ⟨some 8, none, .asg (tm 56), false⟩, ⟨some 9, none, .asg (ci 0), false⟩] kR kR ?_
        refine r_run ?_
        refine r_end [0, 1, 2, 3, 8, 9, 10, 11, 12, 13, 14, 34, 36, 55, 57, 60] ?_
        refine a_ret ?_
        refine y_retG [(.tmp 8, none), (.tmp 9, none)] ((p, (0 : Int))) [1000] ?_ ?_ ?_
        · exact ⟨hp1, hp2⟩
        · exact rfl
        · exact frep_of rfl
end
end Go.Proofs.Ytielfejpnkcjbaa.SortE

/- Sorting rivulet/age.Entry: the partitions. -/
set_option linter.unusedVariables false
set_option linter.unusedSimpArgs false
namespace Go.Proofs.Ytielfejpnkcjbaa.SortE
open Sl Ab Go.Sort
section
variable {α : Type} [Inhabited α] {e : Enc α 15} {cmp : α → α → Int}
theorem part_ok (c : CmpFn Try.prog e cmp) (d : Array α) (a b p : Nat) (hap : a ≤ p) (hpb : p < b) (hb : b ≤ d.size) (hs : d.size ≤ 1000000000) : GCall Try.prog 76 [.os 1000, .fz (vI a), .fz (vI b), .fz (vI p), .fz c.fv] [(1000, .rows 64 15 (rw e d))] (Nat × Bool × Array α) (fun y => y = partition (ltOf cmp) d a b p) (fun y => [(1000, .rows 64 15 (rw e y.2.2))]) (fun y => .tup [vI y.1, vB y.2.1]) := by
  refine g_enter1 (ro := fun y : Nat × Bool × Array α => rw e y.2.2) Try.func76 rfl (fun h0 => ?_)
  simp only [argG]
  have hR : ∀ d : Array α, (rw e d).length = d.size := fun _ => rw_length
  have hw1 : IntKind.i64.wrap ((a : Int) + 1) = ((a + 1 : Nat) : Int) := wrap64_nat _ _ (by omega) (by omega)
  have hw2 : IntKind.i64.wrap ((b : Int) - 1) = ((b - 1 : Nat) : Int) := wrap64_nat _ _ (by omega) (by omega)
  have hsw := rw_swp (e := e) (d := d) (i := a) (j := p) (by omega) (by omega)
  obtain ⟨d1, hd1⟩ : ∃ d1, swp d a p = d1 := ⟨_, rfl⟩
  rw [hd1] at hsw
  have hs1 : d1.size = d.size := by rw [← hd1]; exact size_swp _ _ _
  refine a_seq ?_
  refine a_reg [⟨some 10, none, .asg (ci 0), false⟩, ⟨some 11, none, .asg (.const (Value.bool false)), false⟩] kR kR ?_
  refine r_run ?_
  refine r_end [0, 1, 2, 3, 4, 10, 11, 12, 13, 47, 66, 71, 120, 139, 144] ?_
  refine a_seq ?_
  refine a_regd [0, 1, 2, 3, 4, 5, 6, 7, 8, 9, 10, 11, 12, 13, 14, 15] [13, 15] [⟨some 14, none, .mv (tm 0), true⟩, ⟨some 15, none, .mv (tm 1), true⟩, ⟨some 16, none, .mv (tm 0), true⟩, ⟨some 17, none, .mv (tm 3), true⟩, ⟨some 18, none, .mv (tm 0), true⟩, ⟨some 19, none, .mv (tm 3), true⟩, ⟨some 20, none, .ix 71 (tm 18) (tm 19) 64 15, true⟩, ⟨some 21, none, .ldN 64 (tm 20) 15, true⟩, ⟨some 22, none, .mv (tm 0), true⟩, ⟨some 23, none, .mv (tm 1), true⟩, ⟨some 24, none, .ix 71 (tm 22) (tm 23) 64 15, true⟩, ⟨some 25, none, .ldN 64 (tm 24) 15, true⟩, ⟨some 26, none, .ix 71 (tm 14) (tm 15) 64 15, true⟩, ⟨none, none, .stN 64 (tm 26) (tm 21) 15, false⟩, ⟨some 27, none, .ix 71 (tm 16) (tm 17) 64 15, true⟩, ⟨none, none, .stN 64 (tm 27) (tm 25) 15, false⟩] kR kR kR kR kR ?_
  refine r_runO ?_ ?_
  · (repeat' (first | exact rw_len (by omega) | exact rw_one (by omega) | refine ⟨?_, ?_⟩ | omega | trivial | (simp only [List.length_set, rw_length]; omega)))
  refine r_end [0, 1, 2, 3, 4, 10, 11, 12, 13, 47, 66, 71, 120, 139, 144] ?_
  refine a_seq ?_
  refine a_reg [⟨some 28, none, .mv (tm 1), false⟩, ⟨some 29, none, .bin .add 3 (tm 28) (ci 1) 3, false⟩, ⟨some 30, none, .mv (tm 2), false⟩, ⟨some 31, none, .bin .sub 3 (tm 30) (ci 1) 3, false⟩, ⟨some 12, none, .asg (tm 29), false⟩, ⟨some 13, none, .asg (tm 31), false⟩] kR kR ?_
  refine r_run ?_
  refine r_end [0, 1, 2, 3, 4, 10, 11, 12, 13, 47, 66, 71, 120, 139, 144] ?_
  refine a_seq ?_
  refine a_block ?_
  refine c_weak [0, 1, 4, 12, 13] ?_
  refine a_loop (fun m T σ => ∃ i : Nat, m = b - i ∧ a < i ∧ i ≤ b ∧ scanUp (fun x => ltOf cmp x d1[a]!) d1 (b - 1) i = scanUp (fun x => ltOf cmp x d1[a]!) d1 (b - 1) (a + 1) ∧ T = [(0, .os 1000), (1, .fz (vI a)), (4, .fz c.fv), (12, .fz (vI i)), (13, .fz (vI (((b - 1 : Nat)   : Int))))] ∧ σ = [(1000, .rows 64 15 (rw e d1))]) (b - (a + 1)) (⟨a + 1, rfl, by omega, by omega, rfl, rfl, rfl⟩) ?_
  rintro m T σ ⟨i, hmi, hi1, hi2, heq1, rfl, rfl⟩
  refine a_seq ?_
  refine a_seq ?_
  refine a_regd [0, 1, 2, 3, 4, 5, 6, 7, 8, 9, 10, 11, 12, 13, 14, 15] [13] [⟨some 32, none, .mv (tm 12), true⟩, ⟨some 33, none, .mv (tm 13), true⟩, ⟨some 34, none, .bin .leq 3 (tm 32) (tm 33) 3, true⟩, ⟨some 35, none, .mv (tm 34), true⟩, ⟨some 36, some (35, true), .mv (tm 4), true⟩, ⟨some 37, some (35, true), .mv (tm 0), true⟩, ⟨some 38, some (35, true), .mv (tm 12), true⟩, ⟨some 39, some (35, true), .ix 71 (tm 37) (tm 38) 64 15, true⟩, ⟨some 40, some (35, true), .ldN 64 (tm 39) 15, true⟩, ⟨some 41, some (35, true), .mv (tm 0), true⟩, ⟨some 42, some (35, true), .mv (tm 1), true⟩, ⟨some 43, some (35, true), .ix 71 (tm 41) (tm 42) 64 15, true⟩, ⟨some 44, some (35, true), .ldN 64 (tm 43) 15, true⟩, ⟨some 45, some (35, true), .callv (tm 36) [(tm 40), (tm 44)] [64, 64], false⟩, ⟨some 46, some (35, true), .bin .lss 3 (tm 45) (ci 0) 3, true⟩, ⟨some 47, none, .pick 35 (tm 46) (.const (Value.bool false)), true⟩] kR kR kR kR kR ?_
  refine r_runO ?_ ?_
  · (simp only [decide_eq_true_eq, Bool.and_eq_true]; omega)
  refine r_callgB (res := vI (cmp d1[i]! d1[a]!)) ?_ ?_ (hc := c.ok)
  · exact fun hg => c.at (d := d1) i a (by simp only [decide_eq_true_eq] at hg; omega) (by omega)
  refine r_run ?_
  refine r_end [0, 1, 2, 3, 4, 10, 11, 12, 13, 47, 66, 71, 120, 139, 144] ?_
  refine c_cond (fun hb0 => ?_) (fun hb0 => ?_)
  · simp only [Bool.and_eq_true, decide_eq_true_eq] at hb0
    have hw3 : IntKind.i64.wrap ((i : Int) + 1) = ((i + 1 : Nat) : Int) := wrap64_nat _ _ (by omega) (by omega)
    refine a_skip ?_
    refine a_block ?_
    refine a_reg [⟨some 48, none, .mv (tm 12), false⟩, ⟨some 49, none, .bin .add 3 (tm 48) (ci 1) 3, false⟩, ⟨some 12, none, .asg (tm 49), false⟩] kR kR ?_
    refine r_run ?_
    refine r_end [0, 1, 2, 3, 4, 10, 11, 12, 13, 47, 66, 71, 120, 139, 144] ?_
    refine a_nil ?_
    refine x_end ?_
    refine a_nil ?_
    refine x_weak [0, 1, 4, 12, 13] ?_
    exact x_next (b - (i + 1)) (by omega) (⟨i + 1, rfl, by omega, by omega, (scanUp_go (by omega) (by simp [ltOf, hb0.2])).trans heq1, rfl, rfl⟩)
  · have hst1 : i ≤ b - 1 → ltOf cmp d1[i]! d1[a]! = false := by intro h; simp [ltOf]; simp at hb0; exact hb0 (by omega)
    have heq1' : scanUp (fun x => ltOf cmp x d1[a]!) d1 (b - 1) (a + 1) = i := by rw [← heq1, scanUp_stop hst1]
    clear heq1 hmi hb0
    refine a_exit ?_
    refine x_then ?_
    refine x_here ?_
    refine a_seq ?_
    refine a_block ?_
    refine c_weak [0, 1, 4, 12, 13] ?_
    refine a_loop (fun m T σ => ∃ j : Nat, m = j ∧ j < b ∧ i ≤ j + 1 ∧ scanDown (fun x => !ltOf cmp x d1[a]!) d1 i j = scanDown (fun x => !ltOf cmp x d1[a]!) d1 i (b - 1) ∧ T = [(0, .os 1000), (1, .fz (vI a)), (4, .fz c.fv), (12, .fz (vI i)), (13, .fz (vI j))] ∧ σ = [(1000, .rows 64 15 (rw e d1))]) (b - 1) (⟨b - 1, rfl, by omega, by omega, rfl, rfl, rfl⟩) ?_
    rintro m T σ ⟨j, hmj, hj1, hj2, heq2, rfl, rfl⟩
    refine a_seq ?_
    refine a_seq ?_
    refine a_regd [0, 1, 2, 3, 4, 5, 6, 7, 8, 9, 10, 11, 12, 13, 14, 15, 16] [13] [⟨some 50, none, .mv (tm 12), true⟩, ⟨some 51, none, .mv (tm 13), true⟩, ⟨some 52, none, .bin .leq 3 (tm 50) (tm 51) 3, true⟩, ⟨some 53, none, .mv (tm 52), true⟩, ⟨some 54, some (53, true), .mv (tm 4), true⟩, ⟨some 55, some (53, true), .mv (tm 0), true⟩, ⟨some 56, some (53, true), .mv (tm 13), true⟩, ⟨some 57, some (53, true), .ix 71 (tm 55) (tm 56) 64 15, true⟩, ⟨some 58, some (53, true), .ldN 64 (tm 57) 15, true⟩, ⟨some 59, some (53, true), .mv (tm 0), true⟩, ⟨some 60, some (53, true), .mv (tm 1), true⟩, ⟨some 61, some (53, true), .ix 71 (tm 59) (tm 60) 64 15, true⟩, ⟨some 62, some (53, true), .ldN 64 (tm 61) 15, true⟩, ⟨some 63, some (53, true), .callv (tm 54) [(tm 58), (tm 62)] [64, 64], false⟩, ⟨some 64, some (53, true), .bin .lss 3 (tm 63) (ci 0) 3, true⟩, ⟨some 65, some (53, true), .not 4 (tm 64), true⟩, ⟨some 66, none, .pick 53 (tm 65) (.const (Value.bool false)), true⟩] kR kR kR kR kR ?_
    refine r_runO ?_ ?_
    · (simp only [decide_eq_true_eq, Bool.and_eq_true]; omega)
    refine r_callgB (res := vI (cmp d1[j]! d1[a]!)) ?_ ?_ (hc := c.ok)
    · exact fun hg => c.at (d := d1) j a (by omega) (by omega)
    refine r_run ?_
    refine r_end [0, 1, 2, 3, 4, 10, 11, 12, 13, 47, 66, 71, 120, 139, 144] ?_
    refine c_cond (fun hb1 => ?_) (fun hb1 => ?_)
    · simp only [Bool.and_eq_true, Bool.not_eq_true', decide_eq_true_eq, decide_eq_false_iff_not] at hb1
      have hw3 : IntKind.i64.wrap ((j : Int) - 1) = ((j - 1 : Nat) : Int) := wrap64_nat _ _ (by omega) (by omega)
      refine a_skip ?_
      refine a_block ?_
      refine a_reg [⟨some 67, none, .mv (tm 13), false⟩, ⟨some 68, none, .bin .sub 3 (tm 67) (ci 1) 3, false⟩, ⟨some 13, none, .asg (tm 68), false⟩] kR kR ?_
      refine r_run ?_
      refine r_end [0, 1, 2, 3, 4, 10, 11, 12, 13, 47, 66, 71, 120, 139, 144] ?_
      refine a_nil ?_
      refine x_end ?_
      refine a_nil ?_
      refine x_weak [0, 1, 4, 12, 13] ?_
      exact x_next (j - 1) (by omega) (⟨j - 1, rfl, by omega, by omega, (scanDown_go (by omega) (by omega) (by simp [ltOf]; omega)).trans heq2, rfl, rfl⟩)
    · have hst2 : i ≤ j → ltOf cmp d1[j]! d1[a]! = true := by intro h; simp [ltOf]; simp at hb1; exact hb1 (by omega)
      have heq2' : scanDown (fun x => !ltOf cmp x d1[a]!) d1 i (b - 1) = j := by rw [← heq2, scanDown_stop (fun h => by simp [hst2 h])]
      have hij : i ≤ j → i < j := scan_ne (p := fun x => ltOf cmp x d1[a]!) hst1 hst2 (by omega)
      clear heq2 hmj hb1
      refine a_exit ?_
      refine x_then ?_
      refine x_here ?_
      refine a_seq ?_
      refine a_seq ?_
      refine a_reg [⟨some 69, none, .mv (tm 12), false⟩, ⟨some 70, none, .mv (tm 13), false⟩, ⟨some 71, none, .bin .gtr 3 (tm 69) (tm 70) 3, false⟩] kR kR ?_
      refine r_run ?_
      refine r_end [0, 1, 2, 3, 4, 10, 11, 12, 13, 47, 66, 71, 120, 139, 144] ?_
      refine c_cond (fun hb2 => ?_) (fun hb2 => ?_)
      · simp only [decide_eq_true_eq] at hb2
        refine a_seq ?_
        refine a_regd [0, 1, 2, 3, 4, 5, 6, 7, 8, 9, 10, 11, 12, 13, 14, 15] [13, 15] [⟨some 72, none, .mv (tm 0), true⟩, ⟨some 73, none, .mv (tm 13), true⟩, ⟨some 74, none, .mv (tm 0), true⟩, ⟨some 75, none, .mv (tm 1), true⟩, ⟨some 76, none, .mv (tm 0), true⟩, ⟨some 77, none, .mv (tm 1), true⟩, ⟨some 78, none, .ix 71 (tm 76) (tm 77) 64 15, true⟩, ⟨some 79, none, .ldN 64 (tm 78) 15, true⟩, ⟨some 80, none, .mv (tm 0), true⟩, ⟨some 81, none, .mv (tm 13), true⟩, ⟨some 82, none, .ix 71 (tm 80) (tm 81) 64 15, true⟩, ⟨some 83, none, .ldN 64 (tm 82) 15, true⟩, ⟨some 84, none, .ix 71 (tm 72) (tm 73) 64 15, true⟩, ⟨none, none, .stN 64 (tm 84) (tm 79) 15, false⟩, ⟨some 85, none, .ix 71 (tm 74) (tm 75) 64 15, true⟩, ⟨none, none, .stN 64 (tm 85) (tm 83) 15, false⟩] kR kR kR kR kR ?_
        refine r_runO ?_ ?_
        · (repeat' (first | exact rw_len (by omega) | exact rw_one (by omega) | refine ⟨?_, ?_⟩ | omega | trivial | (simp only [List.length_set, rw_length]; omega)))
        refine r_end [0, 1, 2, 3, 4, 10, 11, 12, 13, 47, 66, 71, 120, 139, 144] ?_
        have hsw2 := rw_swp (e := e) (d := d1) (i := j) (j := a) (by omega) (by omega)
        refine a_seq ?_
        refine a_reg [⟨some 86, none, .mv (tm 13), false⟩, ⟨some 10, none, .asg (tm 86), false⟩, ⟨some 11, none, .asg (.const (Value.bool true)), false⟩] kR kR ?_
        refine r_run ?_
        refine r_end [0, 1, 2, 3, 4, 10, 11, 12, 13, 47, 66, 71, 120, 139, 144] ?_
        refine a_ret ?_
        refine y_retG [(.tmp 10, none), (.tmp 11, none)] ((j, true, swp d1 j a)) [1000] ?_ ?_ ?_
        · exact (partition_one hd1 heq1' heq2' (by omega)).symm
        · exact rfl
        · exact frep_of rfl
      · simp only [decide_eq_false_iff_not] at hb2
        have hij2 : i < j := hij (by omega)
        have hw4 : IntKind.i64.wrap ((i : Int) + 1) = ((i + 1 : Nat) : Int) := wrap64_nat _ _ (by omega) (by omega)
        have hw5 : IntKind.i64.wrap ((j : Int) - 1) = ((j - 1 : Nat) : Int) := wrap64_nat _ _ (by omega) (by omega)
        refine a_skip ?_
        refine a_seq ?_
        refine a_regd [0, 1, 2, 3, 4, 5, 6, 7, 8, 9, 10, 11, 12, 13, 14, 15] [13, 15] [⟨some 87, none, .mv (tm 0), true⟩, ⟨some 88, none, .mv (tm 12), true⟩, ⟨some 89, none, .mv (tm 0), true⟩, ⟨some 90, none, .mv (tm 13), true⟩, ⟨some 91, none, .mv (tm 0), true⟩, ⟨some 92, none, .mv (tm 13), true⟩, ⟨some 93, none, .ix 71 (tm 91) (tm 92) 64 15, true⟩, ⟨some 94, none, .ldN 64 (tm 93) 15, true⟩, ⟨some 95, none, .mv (tm 0), true⟩, ⟨some 96, none, .mv (tm 12), true⟩, ⟨some 97, none, .ix 71 (tm 95) (tm 96) 64 15, true⟩, ⟨some 98, none, .ldN 64 (tm 97) 15, true⟩, ⟨some 99, none, .ix 71 (tm 87) (tm 88) 64 15, true⟩, ⟨none, none, .stN 64 (tm 99) (tm 94) 15, false⟩, ⟨some 100, none, .ix 71 (tm 89) (tm 90) 64 15, true⟩, ⟨none, none, .stN 64 (tm 100) (tm 98) 15, false⟩] kR kR kR kR kR ?_
        refine r_runO ?_ ?_
        · (repeat' (first | exact rw_len (by omega) | exact rw_one (by omega) | refine ⟨?_, ?_⟩ | omega | trivial | (simp only [List.length_set, rw_length]; omega)))
        refine r_end [0, 1, 2, 3, 4, 10, 11, 12, 13, 47, 66, 71, 120, 139, 144] ?_
        have hsw2 := rw_swp (e := e) (d := d1) (i := i) (j := j) (by omega) (by omega)
        refine a_seq ?_
        refine a_reg [⟨some 101, none, .mv (tm 12), false⟩, ⟨some 102, none, .bin .add 3 (tm 101) (ci 1) 3, false⟩, ⟨some 12, none, .asg (tm 102), false⟩] kR kR ?_
        refine r_run ?_
        refine r_end [0, 1, 2, 3, 4, 10, 11, 12, 13, 47, 66, 71, 120, 139, 144] ?_
        refine a_seq ?_
        refine a_reg [⟨some 103, none, .mv (tm 13), false⟩, ⟨some 104, none, .bin .sub 3 (tm 103) (ci 1) 3, false⟩, ⟨some 13, none, .asg (tm 104), false⟩] kR kR ?_
        refine r_run ?_
        refine r_end [0, 1, 2, 3, 4, 10, 11, 12, 13, 47, 66, 71, 120, 139, 144] ?_
        have hfin : ∀ k d2, partLoop (ltOf cmp) a (i + 1) (j - 1) (swp d1 i j) = (k, d2) → (k, false, swp d2 k a) = partition (ltOf cmp) d a b p := fun k d2 h => (partition_two hd1 heq1' heq2' (by omega) h).symm
        have hsz3 : (swp d1 i j).size = d.size := (size_swp _ _ _).trans hs1
        obtain ⟨d3, hd3⟩ : ∃ d3, swp d1 i j = d3 := ⟨_, rfl⟩
        rw [hd3] at hfin hsz3 ⊢
        clear hd3 hsw hsw2 hd1 hs1 heq1' heq2' hst1 hst2 hij hw1 hw2 hw4 hw5 hb2
        refine a_seq ?_
        refine a_block ?_
        refine c_weak [0, 1, 4, 12, 13] ?_
        refine a_loop (fun m T σ => ∃ (u v : Nat) (d2 : Array α), m = v + 1 - u ∧ a < u ∧ u ≤ v + 1 ∧ v < b ∧ d2.size = d.size ∧ partLoop (ltOf cmp) a u v d2 = partLoop (ltOf cmp) a (i + 1) (j - 1) d3 ∧ T = [(0, .os 1000), (1, .fz (vI a)), (4, .fz c.fv), (12, .fz (vI u)), (13, .fz (vI v))] ∧ σ = [(1000, .rows 64 15 (rw e d2))]) (j - 1 + 1 - (i + 1)) (⟨i + 1, j - 1, d3, rfl, by omega, by omega, by omega, hsz3, rfl, rfl, rfl⟩) ?_
        rintro m T σ ⟨u, v, d2, hmu, hu1, hu2, hv1, hs2, heq3, rfl, rfl⟩
        refine a_block ?_
        refine a_seq ?_
        refine a_block ?_
        refine c_weak [0, 1, 4, 12, 13] ?_
        refine a_loop (fun m T σ => ∃ x : Nat, m = v + 1 - x ∧ u ≤ x ∧ x ≤ v + 1 ∧ scanUp (fun x => ltOf cmp x d2[a]!) d2 v x = scanUp (fun x => ltOf cmp x d2[a]!) d2 v u ∧ T = [(0, .os 1000), (1, .fz (vI a)), (4, .fz c.fv), (12, .fz (vI x)), (13, .fz (vI v))] ∧ σ = [(1000, .rows 64 15 (rw e d2))]) (v + 1 - u) (⟨u, rfl, by omega, by omega, rfl, rfl, rfl⟩) ?_
        rintro m T σ ⟨x, hmx, hx1, hx2, heq4, rfl, rfl⟩
        refine a_seq ?_
        refine a_seq ?_
        refine a_regd [0, 1, 2, 3, 4, 5, 6, 7, 8, 9, 10, 11, 12, 13, 14, 15] [13] [⟨some 105, none, .mv (tm 12), true⟩, ⟨some 106, none, .mv (tm 13), true⟩, ⟨some 107, none, .bin .leq 3 (tm 105) (tm 106) 3, true⟩, ⟨some 108, none, .mv (tm 107), true⟩, ⟨some 109, some (108, true), .mv (tm 4), true⟩, ⟨some 110, some (108, true), .mv (tm 0), true⟩, ⟨some 111, some (108, true), .mv (tm 12), true⟩, ⟨some 112, some (108, true), .ix 71 (tm 110) (tm 111) 64 15, true⟩, ⟨some 113, some (108, true), .ldN 64 (tm 112) 15, true⟩, ⟨some 114, some (108, true), .mv (tm 0), true⟩, ⟨some 115, some (108, true), .mv (tm 1), true⟩, ⟨some 116, some (108, true), .ix 71 (tm 114) (tm 115) 64 15, true⟩, ⟨some 117, some (108, true), .ldN 64 (tm 116) 15, true⟩, ⟨some 118, some (108, true), .callv (tm 109) [(tm 113), (tm 117)] [64, 64], false⟩, ⟨some 119, some (108, true), .bin .lss 3 (tm 118) (ci 0) 3, true⟩, ⟨some 120, none, .pick 108 (tm 119) (.const (Value.bool false)), true⟩] kR kR kR kR kR ?_
        refine r_runO ?_ ?_
        · (simp only [decide_eq_true_eq, Bool.and_eq_true]; omega)
        refine r_callgB (res := vI (cmp d2[x]! d2[a]!)) ?_ ?_ (hc := c.ok)
        · exact fun hg => c.at (d := d2) x a (by simp only [decide_eq_true_eq] at hg; omega) (by omega)
        refine r_run ?_
        refine r_end [0, 1, 2, 3, 4, 10, 11, 12, 13, 47, 66, 71, 120, 139, 144] ?_
        refine c_cond (fun hb3 => ?_) (fun hb3 => ?_)
        · simp only [Bool.and_eq_true, decide_eq_true_eq] at hb3
          have hw3 : IntKind.i64.wrap ((x : Int) + 1) = ((x + 1 : Nat) : Int) := wrap64_nat _ _ (by omega) (by omega)
          refine a_skip ?_
          refine a_block ?_
          refine a_reg [⟨some 121, none, .mv (tm 12), false⟩, ⟨some 122, none, .bin .add 3 (tm 121) (ci 1) 3, false⟩, ⟨some 12, none, .asg (tm 122), false⟩] kR kR ?_
          refine r_run ?_
          refine r_end [0, 1, 2, 3, 4, 10, 11, 12, 13, 47, 66, 71, 120, 139, 144] ?_
          refine a_nil ?_
          refine x_end ?_
          refine a_nil ?_
          refine x_weak [0, 1, 4, 12, 13] ?_
          exact x_next (v + 1 - (x + 1)) (by omega) (⟨x + 1, rfl, by omega, by omega, (scanUp_go (by omega) (by simp [ltOf, hb3.2])).trans heq4, rfl, rfl⟩)
        · have hst3 : x ≤ v → ltOf cmp d2[x]! d2[a]! = false := by intro h; simp [ltOf]; simp at hb3; exact hb3 (by omega)
          have heq4' : scanUp (fun x => ltOf cmp x d2[a]!) d2 v u = x := by rw [← heq4, scanUp_stop hst3]
          clear heq4 hmx hb3
          refine a_exit ?_
          refine x_then ?_
          refine x_here ?_
          refine a_seq ?_
          refine a_block ?_
          refine c_weak [0, 1, 4, 12, 13] ?_
          refine a_loop (fun m T σ => ∃ z : Nat, m = z ∧ z ≤ v ∧ x ≤ z + 1 ∧ scanDown (fun x => !ltOf cmp x d2[a]!) d2 x z = scanDown (fun x => !ltOf cmp x d2[a]!) d2 x v ∧ T = [(0, .os 1000), (1, .fz (vI a)), (4, .fz c.fv), (12, .fz (vI x)), (13, .fz (vI z))] ∧ σ = [(1000, .rows 64 15 (rw e d2))]) (v) (⟨v, rfl, by omega, by omega, rfl, rfl, rfl⟩) ?_
          rintro m T σ ⟨z, hmz, hz1, hz2, heq5, rfl, rfl⟩
          refine a_seq ?_
          refine a_seq ?_
          refine a_regd [0, 1, 2, 3, 4, 5, 6, 7, 8, 9, 10, 11, 12, 13, 14, 15, 16] [13] [⟨some 123, none, .mv (tm 12), true⟩, ⟨some 124, none, .mv (tm 13), true⟩, ⟨some 125, none, .bin .leq 3 (tm 123) (tm 124) 3, true⟩, ⟨some 126, none, .mv (tm 125), true⟩, ⟨some 127, some (126, true), .mv (tm 4), true⟩, ⟨some 128, some (126, true), .mv (tm 0), true⟩, ⟨some 129, some (126, true), .mv (tm 13), true⟩, ⟨some 130, some (126, true), .ix 71 (tm 128) (tm 129) 64 15, true⟩, ⟨some 131, some (126, true), .ldN 64 (tm 130) 15, true⟩, ⟨some 132, some (126, true), .mv (tm 0), true⟩, ⟨some 133, some (126, true), .mv (tm 1), true⟩, ⟨some 134, some (126, true), .ix 71 (tm 132) (tm 133) 64 15, true⟩, ⟨some 135, some (126, true), .ldN 64 (tm 134) 15, true⟩, ⟨some 136, some (126, true), .callv (tm 127) [(tm 131), (tm 135)] [64, 64], false⟩, ⟨some 137, some (126, true), .bin .lss 3 (tm 136) (ci 0) 3, true⟩, ⟨some 138, some (126, true), .not 4 (tm 137), true⟩, ⟨some 139, none, .pick 126 (tm 138) (.const (Value.bool false)), true⟩] kR kR kR kR kR ?_
          refine r_runO ?_ ?_
          · (simp only [decide_eq_true_eq, Bool.and_eq_true]; omega)
          refine r_callgB (res := vI (cmp d2[z]! d2[a]!)) ?_ ?_ (hc := c.ok)
          · exact fun hg => c.at (d := d2) z a (by omega) (by omega)
          refine r_run ?_
          refine r_end [0, 1, 2, 3, 4, 10, 11, 12, 13, 47, 66, 71, 120, 139, 144] ?_
          refine c_cond (fun hb4 => ?_) (fun hb4 => ?_)
          · simp only [Bool.and_eq_true, Bool.not_eq_true', decide_eq_true_eq, decide_eq_false_iff_not] at hb4
            have hw3 : IntKind.i64.wrap ((z : Int) - 1) = ((z - 1 : Nat) : Int) := wrap64_nat _ _ (by omega) (by omega)
            refine a_skip ?_
            refine a_block ?_
            refine a_reg [⟨some 140, none, .mv (tm 13), false⟩, ⟨some 141, none, .bin .sub 3 (tm 140) (ci 1) 3, false⟩, ⟨some 13, none, .asg (tm 141), false⟩] kR kR ?_
            refine r_run ?_
            refine r_end [0, 1, 2, 3, 4, 10, 11, 12, 13, 47, 66, 71, 120, 139, 144] ?_
            refine a_nil ?_
            refine x_end ?_
            refine a_nil ?_
            refine x_weak [0, 1, 4, 12, 13] ?_
            exact x_next (z - 1) (by omega) (⟨z - 1, rfl, by omega, by omega, (scanDown_go (by omega) (by omega) (by simp [ltOf]; omega)).trans heq5, rfl, rfl⟩)
          · have hst4 : x ≤ z → ltOf cmp d2[z]! d2[a]! = true := by intro h; simp [ltOf]; simp at hb4; exact hb4 (by omega)
            have heq5' : scanDown (fun x => !ltOf cmp x d2[a]!) d2 x v = z := by rw [← heq5, scanDown_stop (fun h => by simp [hst4 h])]
            have hxz : x ≤ z → x < z := scan_ne (p := fun x => ltOf cmp x d2[a]!) hst3 hst4 (by omega)
            clear heq5 hmz hb4
            refine a_exit ?_
            refine x_then ?_
            refine x_here ?_
            refine a_seq ?_
            refine a_seq ?_
            refine a_reg [⟨some 142, none, .mv (tm 12), false⟩, ⟨some 143, none, .mv (tm 13), false⟩, ⟨some 144, none, .bin .gtr 3 (tm 142) (tm 143) 3, false⟩] kR kR ?_
            refine r_run ?_
            refine r_end [0, 1, 2, 3, 4, 10, 11, 12, 13, 47, 66, 71, 120, 139, 144] ?_
            refine c_cond (fun hb5 => ?_) (fun hb5 => ?_)
            · simp only [decide_eq_true_eq] at hb5
              have hpl := (part_out heq4' heq5' (by omega)).symm.trans heq3
              refine a_exit ?_
              refine x_up (by decide) ?_
              refine x_then ?_
              refine x_here ?_
              refine a_seq ?_
              refine a_regd [0, 1, 2, 3, 4, 5, 6, 7, 8, 9, 10, 11, 12, 13, 14, 15] [13, 15] [⟨some 163, none, .mv (tm 0), true⟩, ⟨some 164, none, .mv (tm 13), true⟩, ⟨some 165, none, .mv (tm 0), true⟩, ⟨some 166, none, .mv (tm 1), true⟩, ⟨some 167, none, .mv (tm 0), true⟩, ⟨some 168, none, .mv (tm 1), true⟩, ⟨some 169, none, .ix 71 (tm 167) (tm 168) 64 15, true⟩, ⟨some 170, none, .ldN 64 (tm 169) 15, true⟩, ⟨some 171, none, .mv (tm 0), true⟩, ⟨some 172, none, .mv (tm 13), true⟩, ⟨some 173, none, .ix 71 (tm 171) (tm 172) 64 15, true⟩, ⟨some 174, none, .ldN 64 (tm 173) 15, true⟩, ⟨some 175, none, .ix 71 (tm 163) (tm 164) 64 15, true⟩, ⟨none, none, .stN 64 (tm 175) (tm 170) 15, false⟩, ⟨some 176, none, .ix 71 (tm 165) (tm 166) 64 15, true⟩, ⟨none, none, .stN 64 (tm 176) (tm 174) 15, false⟩] kR kR kR kR kR ?_
              refine r_runO ?_ ?_
              · (repeat' (first | exact rw_len (by omega) | exact rw_one (by omega) | refine ⟨?_, ?_⟩ | omega | trivial | (simp only [List.length_set, rw_length]; omega)))
              refine r_end [0, 1, 2, 3, 4, 10, 11, 12, 13, 47, 66, 71, 120, 139, 144] ?_
              have hsw3 := rw_swp (e := e) (d := d2) (i := z) (j := a) (by omega) (by omega)
              refine a_seq ?_
              refine a_reg [⟨some 177, none, .mv (tm 13), false⟩, ⟨some 10, none, .asg (tm 177), false⟩, ⟨some 11, none, .asg (.const (Value.bool false)), false⟩] kR kR ?_
              refine r_run ?_
              refine r_end [0, 1, 2, 3, 4, 10, 11, 12, 13, 47, 66, 71, 120, 139, 144] ?_
              refine a_ret ?_
              refine y_retG [(.tmp 10, none), (.tmp 11, none)] ((z, false, swp d2 z a)) [1000] ?_ ?_ ?_
              · exact hfin _ _ hpl.symm
              · exact rfl
              · exact frep_of rfl
            · simp only [decide_eq_false_iff_not] at hb5
              have hxz2 : x < z := hxz (by omega)
              have hw6 : IntKind.i64.wrap ((x : Int) + 1) = ((x + 1 : Nat) : Int) := wrap64_nat _ _ (by omega) (by omega)
              have hw7 : IntKind.i64.wrap ((z : Int) - 1) = ((z - 1 : Nat) : Int) := wrap64_nat _ _ (by omega) (by omega)
              refine a_skip ?_
              refine a_seq ?_
              refine a_regd [0, 1, 2, 3, 4, 5, 6, 7, 8, 9, 10, 11, 12, 13, 14, 15] [13, 15] [⟨some 145, none, .mv (tm 0), true⟩, ⟨some 146, none, .mv (tm 12), true⟩, ⟨some 147, none, .mv (tm 0), true⟩, ⟨some 148, none, .mv (tm 13), true⟩, ⟨some 149, none, .mv (tm 0), true⟩, ⟨some 150, none, .mv (tm 13), true⟩, ⟨some 151, none, .ix 71 (tm 149) (tm 150) 64 15, true⟩, ⟨some 152, none, .ldN 64 (tm 151) 15, true⟩, ⟨some 153, none, .mv (tm 0), true⟩, ⟨some 154, none, .mv (tm 12), true⟩, ⟨some 155, none, .ix 71 (tm 153) (tm 154) 64 15, true⟩, ⟨some 156, none, .ldN 64 (tm 155) 15, true⟩, ⟨some 157, none, .ix 71 (tm 145) (tm 146) 64 15, true⟩, ⟨none, none, .stN 64 (tm 157) (tm 152) 15, false⟩, ⟨some 158, none, .ix 71 (tm 147) (tm 148) 64 15, true⟩, ⟨none, none, .stN 64 (tm 158) (tm 156) 15, false⟩] kR kR kR kR kR ?_
              refine r_runO ?_ ?_
              · (repeat' (first | exact rw_len (by omega) | exact rw_one (by omega) | refine ⟨?_, ?_⟩ | omega | trivial | (simp only [List.length_set, rw_length]; omega)))
              refine r_end [0, 1, 2, 3, 4, 10, 11, 12, 13, 47, 66, 71, 120, 139, 144] ?_
              have hsw3 := rw_swp (e := e) (d := d2) (i := x) (j := z) (by omega) (by omega)
              refine a_seq ?_
              refine a_reg [⟨some 159, none, .mv (tm 12), false⟩, ⟨some 160, none, .bin .add 3 (tm 159) (ci 1) 3, false⟩, ⟨some 12, none, .asg (tm 160), false⟩] kR kR ?_
              refine r_run ?_
              refine r_end [0, 1, 2, 3, 4, 10, 11, 12, 13, 47, 66, 71, 120, 139, 144] ?_
              refine a_reg [⟨some 161, none, .mv (tm 13), false⟩, ⟨some 162, none, .bin .sub 3 (tm 161) (ci 1) 3, false⟩, ⟨some 13, none, .asg (tm 162), false⟩] kR kR ?_
              refine r_run ?_
              refine r_end [0, 1, 2, 3, 4, 10, 11, 12, 13, 47, 66, 71, 120, 139, 144] ?_
              refine a_nil ?_
              refine x_end ?_
              refine a_nil ?_
              refine x_weak [0, 1, 4, 12, 13] ?_
              exact x_next (z - 1 + 1 - (x + 1)) (by omega) (⟨x + 1, z - 1, swp d2 x z, rfl, by omega, by omega, by omega, (size_swp _ _ _).trans hs2, (part_go heq4' heq5' (by omega)).symm.trans heq3, rfl, rfl⟩)
end
end Go.Proofs.Ytielfejpnkcjbaa.SortE
