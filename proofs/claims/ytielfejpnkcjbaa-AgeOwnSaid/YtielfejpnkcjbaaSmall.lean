/- Small functions: numbers within bounds, lists of numbers held against each other, copied. -/
import Derived.Test.YtielfejpnkcjbaaAddr
set_option linter.unusedVariables false
set_option linter.unusedSimpArgs false
namespace Go.Proofs.Ytielfejpnkcjbaa
open Sl
theorem Sl.Cells.form {h : Heap} {sz n : Nat} {v : Value} {cs : List Value} (x : Cells h sz v n cs) : ∃ a c, v = .slice a n c := by
  cases x with
  | zero a c => exact ⟨_, _, rfl⟩
  | at_ => exact ⟨_, _, rfl⟩
theorem Sl.Cells.get {h : Heap} {sz n : Nat} {v : Value} {cs : List Value} (x : Cells h sz v n cs) {i : Nat} (hi : i < n) :
    ∃ b off c full e fz, v = .slice (some ⟨b, off, none⟩) n c ∧ h b = some (.cells full e fz) ∧ ∀ j, j < sz → full[off + i * sz + j]? = cs[i * sz + j]? := by
  cases x with
  | zero a c => omega
  | @at_ b off n c full e fz cs hb hl hnc hc =>
    refine ⟨b, off, c, full, e, fz, rfl, hb, fun j hj => ?_⟩
    have hlt : i * sz + j < n * sz := by
      have : (i + 1) * sz ≤ n * sz := Nat.mul_le_mul_right _ hi
      rw [Nat.add_mul] at this; omega
    rw [← hc, List.getElem?_take_of_lt hlt, List.getElem?_drop, Array.getElem?_toList, Nat.add_assoc]
theorem tmod_fix (n b : Int) (hb : 0 < b) : (0 ≤ n.tmod b → n.tmod b = n % b) ∧ (n.tmod b < 0 → n.tmod b + b = n % b) ∧ -b < n.tmod b ∧ n.tmod b < b := by
  have h1 := Int.tmod_eq_emod (a := n) (b := b)
  have h2 := Int.emod_nonneg n (show b ≠ 0 by omega)
  have h3 := Int.emod_lt_of_pos n hb
  have hab : (b.natAbs : Int) = b := by omega
  split at h1
  · omega
  · rename_i hc
    have hne : n % b ≠ 0 := fun e => hc (.inr (Int.dvd_of_emod_eq_zero e))
    rw [hab] at h1
    omega
theorem number_ok (n b : Int) (hb : 0 < b) (hb' : b ≤ 4611686018427387904) (h : Heap) : SCalls Try.prog 12 #[.int .i64 n, .int .i64 b] h (fun v h' => h' = h ∧ v = .int .i64 (n % b)) := by
  refine s_enter Try.func12 rfl (by rw [Try.ntmps12]; simp) ?_
  rw [Try.ntmps12]
  obtain ⟨hf1, hf2, hlow, hhigh⟩ := tmod_fix n b hb
  have h2 := Int.emod_nonneg n (show b ≠ 0 by omega)
  have h3 := Int.emod_lt_of_pos n hb
  have hbn : b ≠ 0 := by omega
  have hbn' : (b == 0) = false := by simp [hbn]
  have hw : IntKind.i64.wrap (n.tmod b) = n.tmod b := wrap64_in _ (by omega) (by omega)
  generalize hT : T0 #[.int .i64 n, .int .i64 b] = T
  have h0 : T 0 = .int .i64 n := by rw [← hT]; rfl
  have h1 : T 1 = .int .i64 b := by rw [← hT]; rfl
  clear hT
  repeat refine s_seq ?_
  repeat refine s_seq ?_
  refine s_region ?_
  refine w_pv rfl dC (want_none rfl) (p_val evA) ?_
  refine w_nil ?_
  repeat refine s_seq ?_
  refine s_region ?_
  refine w_pv rfl dC (want_none rfl) (p_val evA) ?_
  refine w_pv rfl dC (want_none rfl) (p_val evA) ?_
  refine w_rd rfl dC (want_none rfl) (r_rem rfl evA evA arA) ?_
  refine w_pv rfl dC (want_none rfl) (p_val evA) ?_
  refine w_nil ?_
  repeat refine s_seq ?_
  refine s_region ?_
  refine w_pv rfl dC (want_none rfl) (p_val evA) ?_
  refine w_pv rfl dC (want_none rfl) (p_val evA) ?_
  refine w_nil ?_
  generalize n.tmod b = r at *
  generalize n % b = r' at *
  by_cases hr : r < 0
  · have hd : decide (r < 0) = true := decide_eq_true hr
    have hw2 : IntKind.i64.wrap (r + b) = r' := by rw [hf2 hr]; exact wrap64_in _ (by omega) (by omega)
    clear hf1 hf2
    repeat refine s_seq ?_
    refine s_cond (t := true) slA ?_
    repeat refine s_seq ?_
    refine s_region ?_
    refine w_pv rfl dC (want_none rfl) (p_val evA) ?_
    refine w_pv rfl dC (want_none rfl) (p_val evA) ?_
    refine w_pv rfl dC (want_none rfl) (p_val evA) ?_
    refine w_pv rfl dC (want_none rfl) (p_val evA) ?_
    refine w_nil ?_
    repeat refine s_seq ?_
    refine s_region ?_
    refine w_pv rfl dC (want_none rfl) (p_val evA) ?_
    refine w_pv rfl dC (want_none rfl) (p_val evA) ?_
    refine w_nil ?_
    refine s_ret ⟨_, res_one rfl rfl, rfl, ?_⟩
    simp only [pval, ev, upd, binVal, intBin, Option.map_some, ↓reduceIte, reduceCtorEq, Nat.reduceEqDiff, Nat.reduceBEq, List.map_toArray, List.map_cons, List.map_nil, cond_true, cond_false, decide_true, decide_false, Bool.not_true, Bool.not_false, Bool.true_and, Bool.false_and, Bool.and_true, Bool.and_false, beq_self_eq_true, bne_self_eq_false, List.getElem_toArray, List.getElem_cons_succ, List.getElem_cons_zero, *]
  · have hd : decide (r < 0) = false := decide_eq_false hr
    have hw2 : r = r' := hf1 (by omega)
    subst hw2
    clear hf1 hf2
    repeat refine s_seq ?_
    refine s_cond (t := false) slA ?_
    repeat refine s_seq ?_
    refine s_skip ?_
    repeat refine s_seq ?_
    refine s_region ?_
    refine w_pv rfl dC (want_none rfl) (p_val evA) ?_
    refine w_pv rfl dC (want_none rfl) (p_val evA) ?_
    refine w_nil ?_
    refine s_ret ⟨_, res_one rfl rfl, rfl, ?_⟩
    simp only [pval, ev, upd, binVal, intBin, Option.map_some, ↓reduceIte, reduceCtorEq, Nat.reduceEqDiff, Nat.reduceBEq, List.map_toArray, List.map_cons, List.map_nil, cond_true, cond_false, decide_true, decide_false, Bool.not_true, Bool.not_false, Bool.true_and, Bool.false_and, Bool.and_true, Bool.and_false, beq_self_eq_true, bne_self_eq_false, List.getElem_toArray, List.getElem_cons_succ, List.getElem_cons_zero, *]
theorem sameInts_ok (u v : Value) (xs ys : List Int) (h : Heap) (hu : Cells h 1 u xs.length (xs.map (.int .i64))) (hv : Cells h 1 v ys.length (ys.map (.int .i64))) (hx : xs.length ≤ 4611686018427387904) (hy : ys.length ≤ 4611686018427387904) :
    SCalls Try.prog 16 #[u, v] h (fun r h' => h' = h ∧ r = .bool (decide (xs = ys))) := by
  refine s_enter Try.func16 rfl (by rw [Try.ntmps16]; simp) ?_
  rw [Try.ntmps16]
  obtain ⟨a1, c1, rfl⟩ := hu.form
  obtain ⟨a2, c2, rfl⟩ := hv.form
  generalize hT : T0 #[.slice a1 xs.length c1, .slice a2 ys.length c2] = T
  have h0 : T 0 = .slice a1 xs.length c1 := by rw [← hT]; rfl
  have h1 : T 1 = .slice a2 ys.length c2 := by rw [← hT]; rfl
  clear hT
  repeat refine s_seq ?_
  refine s_region ?_
  refine w_pv rfl dC (want_none rfl) (p_val evA) ?_
  refine w_nil ?_
  repeat refine s_seq ?_
  refine s_region ?_
  refine w_pv rfl dC (want_none rfl) (p_val evA) ?_
  refine w_rd rfl dC (want_none rfl) (r_len_slice rfl Try.underlying28 evA) ?_
  refine w_pv rfl dC (want_none rfl) (p_val evA) ?_
  refine w_rd rfl dC (want_none rfl) (r_len_slice rfl Try.underlying28 evA) ?_
  refine w_pv rfl dC (want_none rfl) (p_val evA) ?_
  refine w_nil ?_
  by_cases hl : ys.length = xs.length
  · have hl' : ((xs.length : Int) != (ys.length : Int)) = false := by simp [hl]
    refine s_cond (t := false) (by simp only [pval, ev, upd, binVal, intBin, Option.map_some, ↓reduceIte, reduceCtorEq, Nat.reduceEqDiff, Nat.reduceBEq, List.map_toArray, List.map_cons, List.map_nil, cond_true, cond_false, decide_true, decide_false, Bool.not_true, Bool.not_false, Bool.true_and, Bool.false_and, Bool.and_true, Bool.and_false, beq_self_eq_true, bne_self_eq_false, List.getElem_toArray, List.getElem_cons_succ, List.getElem_cons_zero, hl']) (s_skip ?_)
    repeat refine s_seq ?_
    refine s_region ?_
    refine w_pv rfl dC (want_none rfl) (p_val evA) ?_
    refine w_nil ?_
    repeat refine s_seq ?_
    refine (s_block (s_loop (fun m T h' => ∃ i : Nat, m = xs.length - i ∧ i ≤ xs.length ∧ (∀ j, j < i → xs[j]? = ys[j]?) ∧ h' = h ∧ T 0 = .slice a1 xs.length c1 ∧ T 1 = .slice a2 ys.length c2 ∧ T 5 = .int .i64 i) (n0 := xs.length) ⟨0, rfl, Nat.zero_le _, by omega, rfl, slA, slA, by simp only [pval, ev, upd, binVal, intBin, Option.map_some, ↓reduceIte, reduceCtorEq, Nat.reduceEqDiff, Nat.reduceBEq, List.map_toArray, List.map_cons, List.map_nil, cond_true, cond_false, decide_true, decide_false, Bool.not_true, Bool.not_false, Bool.true_and, Bool.false_and, Bool.and_true, Bool.and_false, beq_self_eq_true, bne_self_eq_false, List.getElem_toArray, List.getElem_cons_succ, List.getElem_cons_zero, *] <;> rfl⟩ ?_))
    clear h0 h1 T
    rintro m T h' ⟨i, rfl, hi, hsame, rfl, h0, h1, h5⟩
    by_cases hlt : i < xs.length
    · have e1 : decide ((i : Int) < (xs.length : Int)) = true := decide_eq_true (by omega)
      have hw3 : IntKind.i64.wrap ((i : Int) + 1) = ((i + 1 : Nat) : Int) := wrap64_nat _ _ (by omega) (by omega)
      obtain ⟨b1, o1, k1, f1, t1, z1, q1, hb1, hg1⟩ := hu.get hlt
      obtain ⟨b2, o2, k2, f2, t2, z2, q2, hb2, hg2⟩ := hv.get (i := i) (by omega)
      cases q1
      cases q2
      obtain ⟨x, hxi⟩ : ∃ x, xs[i]? = some x := ⟨_, List.getElem?_eq_getElem hlt⟩
      obtain ⟨y, hyi⟩ : ∃ y, ys[i]? = some y := ⟨_, List.getElem?_eq_getElem (by omega)⟩
      have g1 : f1[o1 + i * 1]? = some (.int .i64 x) := by have := hg1 0 (by omega); simpa [hxi] using this
      have g2 : f2[o2 + i * 1]? = some (.int .i64 y) := by have := hg2 0 (by omega); simpa [hyi] using this
      clear hg1 hg2
      have hii : (0 : Int) ≤ (i : Int) := by omega
      have hi1 : (i : Int) < (xs.length : Int) := by omega
      have hi2 : (i : Int) < (ys.length : Int) := by omega
      clear hl'
      repeat refine s_seq ?_
      refine s_region ?_
      refine w_pv rfl dC (want_none rfl) (p_val evA) ?_
      refine w_pv rfl dC (want_none rfl) (p_val evA) ?_
      refine w_rd rfl dC (want_none rfl) (r_len_slice rfl Try.underlying28 evA) ?_
      refine w_pv rfl dC (want_none rfl) (p_val evA) ?_
      refine w_nil ?_
      refine (s_cond (t := true) slA (s_skip ?_))
      repeat refine s_seq ?_
      refine s_block ?_
      repeat refine s_seq ?_
      refine s_draw [(0, true), (1, true), (2, true), (3, true), (4, true), (5, true), (6, true), (7, true), (8, true), (9, true)] [] [] rfl kR kR ?_
      refine d_pv rfl rfl dC rfl rfl (want_none rfl) (p_val evA) ?_
      refine d_pv rfl rfl dC rfl rfl (want_none rfl) (p_val evA) ?_
      refine d_pv rfl rfl dC rfl rfl (want_none rfl) (p_indexAddr (sz := 1) rfl Try.underlying28 kR kR evA evA hii hi1) ?_
      refine d_rd [_] rfl rfl dC rfl rfl (want_none rfl) (r_load1 rfl Try.underlying3 rfl evA (restr1 hpA) ceA) ?_
      refine d_pv rfl rfl dC rfl rfl (want_none rfl) (p_val evA) ?_
      refine d_pv rfl rfl dC rfl rfl (want_none rfl) (p_val evA) ?_
      refine d_pv rfl rfl dC rfl rfl (want_none rfl) (p_indexAddr (sz := 1) rfl Try.underlying28 kR kR evA evA hii hi2) ?_
      refine d_rd [_] rfl rfl dC rfl rfl (want_none rfl) (r_load1 rfl Try.underlying3 rfl evA (restr1 hpA) ceA) ?_
      refine d_pv rfl rfl dC rfl rfl (want_none rfl) (p_val evA) ?_
      refine d_pv rfl rfl dC rfl rfl (want_none rfl) (p_val evA) ?_
      refine d_nil ?_
      repeat refine s_seq ?_
      refine s_region ?_
      refine w_pv rfl dC (want_none rfl) (p_val evA) ?_
      refine w_pv rfl dC (want_none rfl) (p_val evA) ?_
      refine w_nil ?_
      by_cases hxy : x = y
      · have hne : (x == y) = true := by simp [hxy]
        refine s_cond (t := false) slA (s_skip ?_)
        refine s_region ?_
        refine w_pv rfl dC (want_none rfl) (p_val evA) ?_
        refine w_pv rfl dC (want_none rfl) (p_val evA) ?_
        refine w_pv rfl dC (want_none rfl) (p_val evA) ?_
        refine w_nil ?_
        refine ⟨xs.length - (i + 1), by omega, i + 1, rfl, by omega, ?_, rfl, slA, slA, slA⟩
        intro j hj
        by_cases hji : j = i
        · rw [hji, hxi, hyi, hxy]
        · exact hsame j (by omega)
      · have hne : (x == y) = false := by simp [hxy]
        refine s_cond (t := true) slA ?_
        repeat refine s_seq ?_
        refine s_region ?_
        refine w_pv rfl dC (want_none rfl) (p_val evA) ?_
        refine w_nil ?_
        refine s_ret ⟨_, res_one rfl rfl, rfl, ?_⟩
        have : ¬ xs = ys := by rintro rfl; rw [hxi] at hyi; exact hxy (Option.some.inj hyi)
        simp only [pval, ev, upd, binVal, intBin, Option.map_some, ↓reduceIte, reduceCtorEq, Nat.reduceEqDiff, Nat.reduceBEq, List.map_toArray, List.map_cons, List.map_nil, cond_true, cond_false, decide_true, decide_false, Bool.not_true, Bool.not_false, Bool.true_and, Bool.false_and, Bool.and_true, Bool.and_false, beq_self_eq_true, bne_self_eq_false, List.getElem_toArray, List.getElem_cons_succ, List.getElem_cons_zero, *]
    · have e1 : decide ((i : Int) < (xs.length : Int)) = false := decide_eq_false (by omega)
      clear hl'
      repeat refine s_seq ?_
      refine s_region ?_
      refine w_pv rfl dC (want_none rfl) (p_val evA) ?_
      refine w_pv rfl dC (want_none rfl) (p_val evA) ?_
      refine w_rd rfl dC (want_none rfl) (r_len_slice rfl Try.underlying28 evA) ?_
      refine w_pv rfl dC (want_none rfl) (p_val evA) ?_
      refine w_nil ?_
      refine (s_cond (t := false) slA (s_exit ?_))
      repeat refine s_seq ?_
      refine s_region ?_
      refine w_pv rfl dC (want_none rfl) (p_val evA) ?_
      refine w_nil ?_
      refine s_ret ⟨_, res_one rfl rfl, rfl, ?_⟩
      have : xs = ys := by
        apply List.ext_getElem?
        intro j
        by_cases hj : j < i
        · exact hsame j hj
        · rw [List.getElem?_eq_none (by omega), List.getElem?_eq_none (by omega)]
      subst this
      simp only [pval, ev, upd, binVal, intBin, Option.map_some, ↓reduceIte, reduceCtorEq, Nat.reduceEqDiff, Nat.reduceBEq, List.map_toArray, List.map_cons, List.map_nil, cond_true, cond_false, decide_true, decide_false, Bool.not_true, Bool.not_false, Bool.true_and, Bool.false_and, Bool.and_true, Bool.and_false, beq_self_eq_true, bne_self_eq_false, List.getElem_toArray, List.getElem_cons_succ, List.getElem_cons_zero, *]
  · have hl' : ((xs.length : Int) != (ys.length : Int)) = true := by simpa using fun e => hl (by omega)
    refine s_cond (t := true) (by simp only [pval, ev, upd, binVal, intBin, Option.map_some, ↓reduceIte, reduceCtorEq, Nat.reduceEqDiff, Nat.reduceBEq, List.map_toArray, List.map_cons, List.map_nil, cond_true, cond_false, decide_true, decide_false, Bool.not_true, Bool.not_false, Bool.true_and, Bool.false_and, Bool.and_true, Bool.and_false, beq_self_eq_true, bne_self_eq_false, List.getElem_toArray, List.getElem_cons_succ, List.getElem_cons_zero, hl']) ?_
    repeat refine s_seq ?_
    refine s_region ?_
    refine w_pv rfl dC (want_none rfl) (p_val evA) ?_
    refine w_nil ?_
    refine s_ret ⟨_, res_one rfl rfl, rfl, ?_⟩
    have : ¬ xs = ys := by rintro rfl; exact hl rfl
    simp only [pval, ev, upd, binVal, intBin, Option.map_some, ↓reduceIte, reduceCtorEq, Nat.reduceEqDiff, Nat.reduceBEq, List.map_toArray, List.map_cons, List.map_nil, cond_true, cond_false, decide_true, decide_false, Bool.not_true, Bool.not_false, Bool.true_and, Bool.false_and, Bool.and_true, Bool.and_false, beq_self_eq_true, bne_self_eq_false, List.getElem_toArray, List.getElem_cons_succ, List.getElem_cons_zero, *]
end Go.Proofs.Ytielfejpnkcjbaa
