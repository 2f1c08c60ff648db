/- Lists of addresses, keys and messages: held against each other, copied. -/
import Derived.Test.YtielfejpnkcjbaaAgeTick
import Derived.Test.YtielfejpnkcjbaaTrieLook
set_option linter.unusedVariables false
set_option linter.unusedSimpArgs false
namespace Go.Proofs.Ytielfejpnkcjbaa
open Sl
theorem cloneAddrs_ok {h : Heap} {v : Value} {n : Nat} {cs : List Value} (x : Cells h 1 v n cs) (hn : n ≤ 34359738368) (h1 : ∀ u ∈ cs, u.oneCell' = true) :
    SCalls Try.prog 60 #[v] h (fun r h' => h.le h' ∧ Own h' 23 1 r n cs ∧ ∀ b, blockOf r = some b → h b = none) := by
  refine s_enter Try.func60 rfl (by rw [Try.ntmps60]; simp) ?_
  rw [Try.ntmps60]
  generalize hT : T0 #[v] = T
  have h0 : T 0 = v := by rw [← hT]; rfl
  clear hT
  obtain ⟨a, c, rfl⟩ := x.form
  cases a with
  | none =>
    obtain ⟨rfl, rfl⟩ : n = 0 ∧ cs = [] := by cases x; exact ⟨rfl, rfl⟩
    repeat refine s_seq ?_
    refine s_region ?_
    refine w_pv rfl dC (want_none rfl) (p_val evA) ?_
    refine w_nil ?_
    repeat refine s_seq ?_
    refine s_region ?_
    refine w_pv rfl dC (want_none rfl) (p_val evA) ?_
    refine w_rd rfl dC (want_none rfl) (r_eql rfl evA evA gdA eqA rfl) ?_
    refine w_nil ?_
    repeat refine s_seq ?_
    refine s_cond (t := true) slA ?_
    repeat refine s_seq ?_
    refine s_region ?_
    refine w_pv rfl dC (want_none rfl) (p_val evA) ?_
    refine w_nil ?_
    exact s_ret ⟨_, res_one rfl rfl, Heap.le_refl _, by simp only [pval, ev, upd, binVal, intBin, Option.map_some, ↓reduceIte, reduceCtorEq, Nat.reduceEqDiff, Nat.reduceBEq, List.map_toArray, List.map_cons, List.map_nil, cond_true, cond_false, decide_true, decide_false, Bool.not_true, Bool.not_false, Bool.true_and, Bool.false_and, Bool.and_true, Bool.and_false, beq_self_eq_true, bne_self_eq_false, List.getElem_toArray, List.getElem_cons_succ, List.getElem_cons_zero, *]; exact .nil, fun b e => by simp only [pval, ev, upd, binVal, intBin, Option.map_some, ↓reduceIte, reduceCtorEq, Nat.reduceEqDiff, Nat.reduceBEq, List.map_toArray, List.map_cons, List.map_nil, cond_true, cond_false, decide_true, decide_false, Bool.not_true, Bool.not_false, Bool.true_and, Bool.false_and, Bool.and_true, Bool.and_false, beq_self_eq_true, bne_self_eq_false, List.getElem_toArray, List.getElem_cons_succ, List.getElem_cons_zero, *] at e; cases e⟩
  | some ad =>
    repeat refine s_seq ?_
    refine s_region ?_
    refine w_pv rfl dC (want_none rfl) (p_val evA) ?_
    refine w_nil ?_
    repeat refine s_seq ?_
    refine s_region ?_
    refine w_pv rfl dC (want_none rfl) (p_val evA) ?_
    refine w_rd rfl dC (want_none rfl) (r_eql rfl evA evA gdA eqA rfl) ?_
    refine w_nil ?_
    repeat refine s_seq ?_
    refine s_cond (t := false) slA ?_
    repeat refine s_seq ?_
    refine s_skip ?_
    repeat refine s_seq ?_
    refine s_region ?_
    refine w_al rfl dC (want_none rfl) (a_buildSlice0 rfl Try.underlying53 kR) ?_
    intro b5 hb5
    refine w_pv rfl dC (want_none rfl) (p_val evA) ?_
    have hle5 := Heap.le_set (.cells #[] 23 (0, 0)) hb5; refine w_ac rfl dC (want_none rfl) (s_append (sz := 1) rfl Try.underlying53 Try.underlying53 kR evA evA (.at_ (n := 0) (c := 0) (cs := []) (Heap.set_same _ _ _) rfl (Nat.le_refl _) (by simp) (by simp)) (x.le hle5) h1 (by omega) ?_); intro v' h2 own grew
    refine w_pv rfl dC (want_none rfl) (p_val evA) ?_
    refine w_nil ?_
    have hle : h.le h2 := fun k o e => grew.same k o (hle5 k o e) fun e1 => by
      have : k = b5 := by simpa [blockOf] using e1
      rw [this, hb5] at e; cases e
    refine s_ret ⟨_, res_one rfl rfl, hle, by simp only [pval, ev, upd, binVal, intBin, Option.map_some, ↓reduceIte, reduceCtorEq, Nat.reduceEqDiff, Nat.reduceBEq, List.map_toArray, List.map_cons, List.map_nil, cond_true, cond_false, decide_true, decide_false, Bool.not_true, Bool.not_false, Bool.true_and, Bool.false_and, Bool.and_true, Bool.and_false, beq_self_eq_true, bne_self_eq_false, List.getElem_toArray, List.getElem_cons_succ, List.getElem_cons_zero, *]; simpa using own, fun b e => ?_⟩
    simp only [pval, ev, upd, binVal, intBin, Option.map_some, ↓reduceIte, reduceCtorEq, Nat.reduceEqDiff, Nat.reduceBEq, List.map_toArray, List.map_cons, List.map_nil, cond_true, cond_false, decide_true, decide_false, Bool.not_true, Bool.not_false, Bool.true_and, Bool.false_and, Bool.and_true, Bool.and_false, beq_self_eq_true, bne_self_eq_false, List.getElem_toArray, List.getElem_cons_succ, List.getElem_cons_zero, *] at e
    rcases grew.blk with e1 | ⟨b', e1, e2⟩
    · rw [e] at e1; simp only [blockOf, Option.some.injEq] at e1; rw [e1]; exact hb5
    · rw [e] at e1; cases e1
      cases e3 : h b with
      | none => rfl
      | some o => rw [hle5 b o e3] at e2; cases e2
theorem sameAddrs_ok (u v : Value) (xs ys : List Int) (h : Heap) (hu : Cells h 1 u xs.length (xs.map (.int .u32))) (hv : Cells h 1 v ys.length (ys.map (.int .u32))) (hx : xs.length ≤ 4611686018427387904) (hy : ys.length ≤ 4611686018427387904) :
    SCalls Try.prog 48 #[u, v] h (fun r h' => h' = h ∧ r = .bool (decide (xs = ys))) := by
  refine s_enter Try.func48 rfl (by rw [Try.ntmps48]; simp) ?_
  rw [Try.ntmps48]
  obtain ⟨a1, c1, rfl⟩ := hu.form
  obtain ⟨a2, c2, rfl⟩ := hv.form
  generalize hT : T0 #[.slice a1 xs.length c1, .slice a2 ys.length c2] = T
  have h0 : T 0 = .slice a1 xs.length c1 := by rw [← hT]; rfl
  have h1 : T 1 = .slice a2 ys.length c2 := by rw [← hT]; rfl
  clear hT
  repeat refine s_seq ?_
  refine s_region ?_
  refine w_pv rfl dC (want_none rfl) (p_val evA) ?_
  refine w_nil ?_
  repeat refine s_seq ?_
  refine s_region ?_
  refine w_pv rfl dC (want_none rfl) (p_val evA) ?_
  refine w_rd rfl dC (want_none rfl) (r_len_slice rfl Try.underlying53 evA) ?_
  refine w_pv rfl dC (want_none rfl) (p_val evA) ?_
  refine w_rd rfl dC (want_none rfl) (r_len_slice rfl Try.underlying53 evA) ?_
  refine w_pv rfl dC (want_none rfl) (p_val evA) ?_
  refine w_nil ?_
  by_cases hl : ys.length = xs.length
  · have hl' : ((xs.length : Int) != (ys.length : Int)) = false := by simp [hl]
    refine s_cond (t := false) (by simp only [pval, ev, upd, binVal, intBin, Option.map_some, ↓reduceIte, reduceCtorEq, Nat.reduceEqDiff, Nat.reduceBEq, List.map_toArray, List.map_cons, List.map_nil, cond_true, cond_false, decide_true, decide_false, Bool.not_true, Bool.not_false, Bool.true_and, Bool.false_and, Bool.and_true, Bool.and_false, beq_self_eq_true, bne_self_eq_false, List.getElem_toArray, List.getElem_cons_succ, List.getElem_cons_zero, hl']) (s_skip ?_)
    repeat refine s_seq ?_
    refine s_region ?_
    refine w_pv rfl dC (want_none rfl) (p_val evA) ?_
    refine w_nil ?_
    repeat refine s_seq ?_
    refine (s_block (s_loop (fun m T h' => ∃ i : Nat, m = xs.length - i ∧ i ≤ xs.length ∧ (∀ j, j < i → xs[j]? = ys[j]?) ∧ h' = h ∧ T 0 = .slice a1 xs.length c1 ∧ T 1 = .slice a2 ys.length c2 ∧ T 5 = .int .i64 i) (n0 := xs.length) ⟨0, rfl, Nat.zero_le _, by omega, rfl, slA, slA, by simp only [pval, ev, upd, binVal, intBin, Option.map_some, ↓reduceIte, reduceCtorEq, Nat.reduceEqDiff, Nat.reduceBEq, List.map_toArray, List.map_cons, List.map_nil, cond_true, cond_false, decide_true, decide_false, Bool.not_true, Bool.not_false, Bool.true_and, Bool.false_and, Bool.and_true, Bool.and_false, beq_self_eq_true, bne_self_eq_false, List.getElem_toArray, List.getElem_cons_succ, List.getElem_cons_zero, *] <;> rfl⟩ ?_))
    clear h0 h1 T
    rintro m T h' ⟨i, rfl, hi, hsame, rfl, h0, h1, h5⟩
    by_cases hlt : i < xs.length
    · have e1 : decide ((i : Int) < (xs.length : Int)) = true := decide_eq_true (by omega)
      have hw3 : IntKind.i64.wrap ((i : Int) + 1) = ((i + 1 : Nat) : Int) := wrap64_nat _ _ (by omega) (by omega)
      obtain ⟨b1, o1, k1, f1, t1, z1, q1, hb1, hg1⟩ := hu.get hlt
      obtain ⟨b2, o2, k2, f2, t2, z2, q2, hb2, hg2⟩ := hv.get (i := i) (by omega)
      cases q1
      cases q2
      obtain ⟨x, hxi⟩ : ∃ x, xs[i]? = some x := ⟨_, List.getElem?_eq_getElem hlt⟩
      obtain ⟨y, hyi⟩ : ∃ y, ys[i]? = some y := ⟨_, List.getElem?_eq_getElem (by omega)⟩
      have g1 : f1[o1 + i * 1]? = some (.int .u32 x) := by have := hg1 0 (by omega); simpa [hxi] using this
      have g2 : f2[o2 + i * 1]? = some (.int .u32 y) := by have := hg2 0 (by omega); simpa [hyi] using this
      clear hg1 hg2
      have hii : (0 : Int) ≤ (i : Int) := by omega
      have hi1 : (i : Int) < (xs.length : Int) := by omega
      have hi2 : (i : Int) < (ys.length : Int) := by omega
      clear hl'
      repeat refine s_seq ?_
      refine s_region ?_
      refine w_pv rfl dC (want_none rfl) (p_val evA) ?_
      refine w_pv rfl dC (want_none rfl) (p_val evA) ?_
      refine w_rd rfl dC (want_none rfl) (r_len_slice rfl Try.underlying53 evA) ?_
      refine w_pv rfl dC (want_none rfl) (p_val evA) ?_
      refine w_nil ?_
      refine (s_cond (t := true) slA (s_skip ?_))
      repeat refine s_seq ?_
      refine s_block ?_
      repeat refine s_seq ?_
      refine s_draw [(0, true), (1, true), (2, true), (3, true), (4, true), (5, true), (6, true), (7, true), (8, true), (9, true)] [] [] rfl kR kR ?_
      refine d_pv rfl rfl dC rfl rfl (want_none rfl) (p_val evA) ?_
      refine d_pv rfl rfl dC rfl rfl (want_none rfl) (p_val evA) ?_
      refine d_pv rfl rfl dC rfl rfl (want_none rfl) (p_indexAddr (sz := 1) rfl Try.underlying53 kR kR evA evA hii hi1) ?_
      refine d_rd [_] rfl rfl dC rfl rfl (want_none rfl) (r_load1 rfl Try.underlying23 rfl evA (restr1 hpA) ceA) ?_
      refine d_pv rfl rfl dC rfl rfl (want_none rfl) (p_val evA) ?_
      refine d_pv rfl rfl dC rfl rfl (want_none rfl) (p_val evA) ?_
      refine d_pv rfl rfl dC rfl rfl (want_none rfl) (p_indexAddr (sz := 1) rfl Try.underlying53 kR kR evA evA hii hi2) ?_
      refine d_rd [_] rfl rfl dC rfl rfl (want_none rfl) (r_load1 rfl Try.underlying23 rfl evA (restr1 hpA) ceA) ?_
      refine d_pv rfl rfl dC rfl rfl (want_none rfl) (p_val evA) ?_
      refine d_pv rfl rfl dC rfl rfl (want_none rfl) (p_val evA) ?_
      refine d_nil ?_
      repeat refine s_seq ?_
      refine s_region ?_
      refine w_pv rfl dC (want_none rfl) (p_val evA) ?_
      refine w_pv rfl dC (want_none rfl) (p_val evA) ?_
      refine w_nil ?_
      by_cases hxy : x = y
      · have hne : (x == y) = true := by simp [hxy]
        refine s_cond (t := false) slA (s_skip ?_)
        refine s_region ?_
        refine w_pv rfl dC (want_none rfl) (p_val evA) ?_
        refine w_pv rfl dC (want_none rfl) (p_val evA) ?_
        refine w_pv rfl dC (want_none rfl) (p_val evA) ?_
        refine w_nil ?_
        refine ⟨xs.length - (i + 1), by omega, i + 1, rfl, by omega, ?_, rfl, slA, slA, slA⟩
        intro j hj
        by_cases hji : j = i
        · rw [hji, hxi, hyi, hxy]
        · exact hsame j (by omega)
      · have hne : (x == y) = false := by simp [hxy]
        refine s_cond (t := true) slA ?_
        repeat refine s_seq ?_
        refine s_region ?_
        refine w_pv rfl dC (want_none rfl) (p_val evA) ?_
        refine w_nil ?_
        refine s_ret ⟨_, res_one rfl rfl, rfl, ?_⟩
        have : ¬ xs = ys := by rintro rfl; rw [hxi] at hyi; exact hxy (Option.some.inj hyi)
        simp only [pval, ev, upd, binVal, intBin, Option.map_some, ↓reduceIte, reduceCtorEq, Nat.reduceEqDiff, Nat.reduceBEq, List.map_toArray, List.map_cons, List.map_nil, cond_true, cond_false, decide_true, decide_false, Bool.not_true, Bool.not_false, Bool.true_and, Bool.false_and, Bool.and_true, Bool.and_false, beq_self_eq_true, bne_self_eq_false, List.getElem_toArray, List.getElem_cons_succ, List.getElem_cons_zero, *]
    · have e1 : decide ((i : Int) < (xs.length : Int)) = false := decide_eq_false (by omega)
      clear hl'
      repeat refine s_seq ?_
      refine s_region ?_
      refine w_pv rfl dC (want_none rfl) (p_val evA) ?_
      refine w_pv rfl dC (want_none rfl) (p_val evA) ?_
      refine w_rd rfl dC (want_none rfl) (r_len_slice rfl Try.underlying53 evA) ?_
      refine w_pv rfl dC (want_none rfl) (p_val evA) ?_
      refine w_nil ?_
      refine (s_cond (t := false) slA (s_exit ?_))
      repeat refine s_seq ?_
      refine s_region ?_
      refine w_pv rfl dC (want_none rfl) (p_val evA) ?_
      refine w_nil ?_
      refine s_ret ⟨_, res_one rfl rfl, rfl, ?_⟩
      have : xs = ys := by
        apply List.ext_getElem?
        intro j
        by_cases hj : j < i
        · exact hsame j hj
        · rw [List.getElem?_eq_none (by omega), List.getElem?_eq_none (by omega)]
      subst this
      simp only [pval, ev, upd, binVal, intBin, Option.map_some, ↓reduceIte, reduceCtorEq, Nat.reduceEqDiff, Nat.reduceBEq, List.map_toArray, List.map_cons, List.map_nil, cond_true, cond_false, decide_true, decide_false, Bool.not_true, Bool.not_false, Bool.true_and, Bool.false_and, Bool.and_true, Bool.and_false, beq_self_eq_true, bne_self_eq_false, List.getElem_toArray, List.getElem_cons_succ, List.getElem_cons_zero, *]
  · have hl' : ((xs.length : Int) != (ys.length : Int)) = true := by simpa using fun e => hl (by omega)
    refine s_cond (t := true) (by simp only [pval, ev, upd, binVal, intBin, Option.map_some, ↓reduceIte, reduceCtorEq, Nat.reduceEqDiff, Nat.reduceBEq, List.map_toArray, List.map_cons, List.map_nil, cond_true, cond_false, decide_true, decide_false, Bool.not_true, Bool.not_false, Bool.true_and, Bool.false_and, Bool.and_true, Bool.and_false, beq_self_eq_true, bne_self_eq_false, List.getElem_toArray, List.getElem_cons_succ, List.getElem_cons_zero, hl']) ?_
    repeat refine s_seq ?_
    refine s_region ?_
    refine w_pv rfl dC (want_none rfl) (p_val evA) ?_
    refine w_nil ?_
    refine s_ret ⟨_, res_one rfl rfl, rfl, ?_⟩
    have : ¬ xs = ys := by rintro rfl; exact hl rfl
    simp only [pval, ev, upd, binVal, intBin, Option.map_some, ↓reduceIte, reduceCtorEq, Nat.reduceEqDiff, Nat.reduceBEq, List.map_toArray, List.map_cons, List.map_nil, cond_true, cond_false, decide_true, decide_false, Bool.not_true, Bool.not_false, Bool.true_and, Bool.false_and, Bool.and_true, Bool.and_false, beq_self_eq_true, bne_self_eq_false, List.getElem_toArray, List.getElem_cons_succ, List.getElem_cons_zero, *]
theorem own_ok {h : Heap} (m : MsgA) (sv : Value) (hc : Cells h 1 sv m.srcs.length (m.srcs.map (.int .u32))) (hn : m.srcs.length ≤ 1000000) (h1 : sv.oneCell' = true) :
    SCalls Try.prog 47 #[msgV m sv] h (fun r h' => h.le h' ∧ ∃ sv', r = msgV m sv' ∧ Cells h' 1 sv' m.srcs.length (m.srcs.map (.int .u32)) ∧ sv'.oneCell' = true ∧ ∀ b, blockOf sv' = some b → h b = none ∧ h' b ≠ none) := by
  refine s_enter Try.func47 rfl (by rw [Try.ntmps47]; simp) ?_
  rw [Try.ntmps47]
  generalize hT : T0 #[msgV m sv] = T
  have h0 : T 0 = .agg #[.int .i64 m.kind, .int .u32 m.frm, .int .u32 m.to, .int .u32 m.src, .int .u32 m.grp, .int .i64 m.rank, .int .i64 m.cost, .bool m.only, sv] := by rw [← hT]; rfl
  clear hT
  repeat refine s_seq ?_
  refine s_region ?_
  refine w_al rfl dC (want_none rfl) (a_boxN rfl evA) ?_
  intro b1 hb1
  refine w_al rfl dC (want_none rfl) (a_allocZ (z := .agg #[.int .i64 0, .int .u32 0, .int .u32 0, .int .u32 0, .int .u32 0, .int .i64 0, .int .i64 0, .bool false, .slice none 0 0]) (zs := #[.int .i64 0, .int .u32 0, .int .u32 0, .int .u32 0, .int .u32 0, .int .i64 0, .int .i64 0, .bool false, .slice none 0 0]) rfl kR rfl) ?_
  intro b2 hb2
  have hne2_1 : b2 ≠ b1 := by rintro rfl; first | (simp [Heap.set] at hb2; done) | (simp [Heap.set] at hb2; split at hb2 <;> simp at hb2; done) | (simp [Heap.set] at hb2; (repeat' (split at hb2)) <;> simp_all)
  have hne1_2 := hne2_1.symm
  refine w_nil ?_
  refine genH fun h2 hh => ?_
  have hb2n : h b2 = none := by rw [Heap.set_other _ _ hne2_1] at hb2; exact hb2
  have hb1v : h2 b1 = some (.cells #[.int .i64 m.kind, .int .u32 m.frm, .int .u32 m.to, .int .u32 m.src, .int .u32 m.grp, .int .i64 m.rank, .int .i64 m.cost, .bool m.only, sv] 55 (0, 0)) := by rw [hh, Heap.set_other _ _ hne1_2]; exact Heap.set_same _ _ _
  have hb2v : h2 b2 = some (.cells #[.int .i64 0, .int .u32 0, .int .u32 0, .int .u32 0, .int .u32 0, .int .i64 0, .int .i64 0, .bool false, .slice none 0 0] 55 (0, 0)) := by rw [hh]; exact Heap.set_same _ _ _
  have hle : h.le h2 := by rw [hh]; exact Heap.le_trans (Heap.le_set _ hb1) (Heap.le_set _ hb2)
  clear hh hb2
  have hcl : ∀ u ∈ m.srcs.map (Value.int .u32), u.oneCell' = true := by simp [Value.oneCell']
  have hc2 := hc.le hle
  repeat refine s_seq ?_
  refine s_region ?_
  refine w_pv rfl dC (want_none rfl) (p_fieldAddr (k := 8) rfl evA kR) ?_
  refine w_rd rfl dC (want_none rfl) (r_load1 rfl Try.underlying53 rfl evA hpA ceA) ?_
  refine w_ac rfl dC (want_none rfl) (s_call rfl rfl Try.func60 kR kR evA ?_); refine (cloneAddrs_ok hc2 (by omega) hcl).mono ?_; rintro v' h3 ⟨hle3, hown, hnew⟩; have hb1w := hle3 _ _ hb1v; have hb2w := hle3 _ _ hb2v; have hone := hown.oneC
  refine w_pv rfl dC (want_none rfl) (p_fieldAddr (k := 8) rfl evA kR) ?_
  refine w_st rfl (want_none rfl) (s_store1 rfl evA evA ocA kR kR hpA szA ?_)
  refine w_nil ?_
  refine genH fun h4 hh => ?_
  have hb1x : h4 b1 = some (.cells #[.int .i64 m.kind, .int .u32 m.frm, .int .u32 m.to, .int .u32 m.src, .int .u32 m.grp, .int .i64 m.rank, .int .i64 m.cost, .bool m.only, v'] 55 (0, 0)) := by rw [hh]; exact Heap.set_same _ _ _
  have hb2x : h4 b2 = some (.cells #[.int .i64 0, .int .u32 0, .int .u32 0, .int .u32 0, .int .u32 0, .int .i64 0, .int .i64 0, .bool false, .slice none 0 0] 55 (0, 0)) := by rw [hh, Heap.set_other _ _ hne2_1]; exact hb2w
  have hle4 : h.le h4 := by rw [hh]; exact Heap.le_set_of (Heap.le_trans hle hle3) hb1 _
  have hvb : ∀ b, blockOf v' = some b → b ≠ b1 ∧ b ≠ b2 := fun b e => ⟨fun e1 => (by have := hnew b e; rw [e1, hb1v] at this; cases this), fun e1 => (by have := hnew b e; rw [e1, hb2v] at this; cases this)⟩
  have hown4 : Own h4 23 1 v' m.srcs.length (m.srcs.map (.int .u32)) := hown.only fun r o hr ho => by rw [hh, Heap.set_other _ _ (hvb r hr).1]; exact ho
  clear hh
  repeat refine s_seq ?_
  refine s_region ?_
  refine w_rd rfl dC (want_none rfl) (r_loadN (n := 9) rfl Try.underlying55 rfl evA hpA kR szA) ?_
  refine w_st rfl (want_none rfl) (s_storeN (n := 9) rfl evA evA ocA kR szA kR hpA szA ?_)
  refine w_nil ?_
  refine s_ret ⟨_, res_one rfl (res_cellN Try.underlying55 rfl slA (Heap.set_same _ _ _) kR rfl), Heap.le_set_of hle4 hb2n _, v', rfl, ?_, hone, fun b e => ⟨?_, ?_⟩⟩
  · exact hown4.cells.only fun r o hr ho => by rw [Heap.set_other _ _ (hvb r hr).2]; exact ho
  · have h1 := hnew b e
    cases e1 : h b with
    | none => rfl
    | some o => rw [hle b o e1] at h1; cases h1
  · rw [Heap.set_other _ _ (hvb b e).2]
    obtain ⟨o, ho⟩ := hown4.blk e
    rw [ho]; simp
end Go.Proofs.Ytielfejpnkcjbaa
