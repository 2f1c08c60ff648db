/- cmp.Compare, cmp.Or. -/
import Derived.Test.YtielfejpnkcjbaaMapsC
import Derived.Test.YtielfejpnkcjbaaSmall
set_option linter.unusedVariables false
set_option linter.unusedSimpArgs false
namespace Go.Proofs.Ytielfejpnkcjbaa
open Sl
def cmpI (a b : Int) : Int := if a < b then -1 else if a > b then 1 else 0
theorem isNaNInt_ok (a : Int) (h : Heap) : SCalls Try.prog 68 #[.int .i64 a] h (fun r h' => h' = h ∧ r = .bool false) := by
  refine s_enter Try.func68 rfl (by rw [Try.ntmps68]; simp) ?_
  rw [Try.ntmps68]
  generalize hT : T0 #[.int .i64 a] = T
  have h0 : T 0 = .int .i64 a := by rw [← hT]; rfl
  clear hT
  repeat refine s_seq ?_
  refine s_region ?_
  refine w_pv rfl dC (want_none rfl) (p_val evA) ?_
  refine w_nil ?_
  repeat refine s_seq ?_
  refine s_region ?_
  refine w_pv rfl dC (want_none rfl) (p_val evA) ?_
  refine w_pv rfl dC (want_none rfl) (p_val evA) ?_
  refine w_pv rfl dC (want_none rfl) (p_val evA) ?_
  refine w_pv rfl dC (want_none rfl) (p_val evA) ?_
  refine w_nil ?_
  exact s_ret ⟨_, res_one rfl rfl, rfl, slA⟩
theorem cmpInt_ok (a b : Int) (h : Heap) : SCalls Try.prog 59 #[.int .i64 a, .int .i64 b] h (fun r h' => h' = h ∧ r = .int .i64 (cmpI a b)) := by
  refine s_enter Try.func59 rfl (by rw [Try.ntmps59]; simp) ?_
  rw [Try.ntmps59]
  generalize hT : T0 #[.int .i64 a, .int .i64 b] = T
  have h0 : T 0 = .int .i64 a := by rw [← hT]; rfl
  have h1 : T 1 = .int .i64 b := by rw [← hT]; rfl
  clear hT
  unfold cmpI
  by_cases hlt : a < b
  · have e1 : decide (a < b) = true := decide_eq_true hlt
    simp only [if_pos hlt]
    clear hlt
    repeat refine s_seq ?_
    refine s_region ?_
    refine w_pv rfl dC (want_none rfl) (p_val evA) ?_
    refine w_nil ?_
    repeat refine s_seq ?_
    refine s_region ?_
    refine w_pv rfl dC (want_none rfl) (p_val evA) ?_
    refine w_ac rfl dC (want_none rfl) (s_call rfl rfl Try.func68 kR kR evA ?_); refine (isNaNInt_ok _ _).mono ?_; rintro _ h ⟨rfl, rfl⟩
    refine w_pv rfl dC (want_none rfl) (p_val evA) ?_
    refine w_nil ?_
    repeat refine s_seq ?_
    refine s_region ?_
    refine w_pv rfl dC (want_none rfl) (p_val evA) ?_
    refine w_ac rfl dC (want_none rfl) (s_call rfl rfl Try.func68 kR kR evA ?_); refine (isNaNInt_ok _ _).mono ?_; rintro _ h ⟨rfl, rfl⟩
    refine w_pv rfl dC (want_none rfl) (p_val evA) ?_
    refine w_nil ?_
    repeat refine s_seq ?_
    refine s_region ?_
    refine w_pv rfl dC (want_none rfl) (p_val evA) ?_
    refine w_nil ?_
    repeat refine s_seq ?_
    refine s_cond (t := false) slA ?_
    repeat refine s_seq ?_
    refine s_skip ?_
    repeat refine s_seq ?_
    refine s_region ?_
    refine w_pv rfl dC (want_none rfl) (p_val evA) ?_
    refine w_nil ?_
    repeat refine s_seq ?_
    refine s_cond (t := false) slA ?_
    repeat refine s_seq ?_
    refine s_skip ?_
    repeat refine s_seq ?_
    refine s_region ?_
    refine w_pv rfl dC (want_none rfl) (p_val evA) ?_
    refine w_pv rfl dC (want_none rfl) (p_val evA) ?_
    refine w_pv rfl dC (want_none rfl) (p_val evA) ?_
    refine w_nil ?_
    repeat refine s_seq ?_
    refine s_cond (t := true) slA ?_
    repeat refine s_seq ?_
    refine s_region ?_
    refine w_pv rfl dC (want_none rfl) (p_val evA) ?_
    refine w_nil ?_
    exact s_ret ⟨_, res_one rfl rfl, rfl, slA⟩
  · have e1 : decide (a < b) = false := decide_eq_false hlt
    simp only [if_neg hlt]
    by_cases hgt : a > b
    · have e2 : decide (a > b) = true := decide_eq_true hgt
      simp only [if_pos hgt]
      clear hlt hgt
      repeat refine s_seq ?_
      refine s_region ?_
      refine w_pv rfl dC (want_none rfl) (p_val evA) ?_
      refine w_nil ?_
      repeat refine s_seq ?_
      refine s_region ?_
      refine w_pv rfl dC (want_none rfl) (p_val evA) ?_
      refine w_ac rfl dC (want_none rfl) (s_call rfl rfl Try.func68 kR kR evA ?_); refine (isNaNInt_ok _ _).mono ?_; rintro _ h ⟨rfl, rfl⟩
      refine w_pv rfl dC (want_none rfl) (p_val evA) ?_
      refine w_nil ?_
      repeat refine s_seq ?_
      refine s_region ?_
      refine w_pv rfl dC (want_none rfl) (p_val evA) ?_
      refine w_ac rfl dC (want_none rfl) (s_call rfl rfl Try.func68 kR kR evA ?_); refine (isNaNInt_ok _ _).mono ?_; rintro _ h ⟨rfl, rfl⟩
      refine w_pv rfl dC (want_none rfl) (p_val evA) ?_
      refine w_nil ?_
      repeat refine s_seq ?_
      refine s_region ?_
      refine w_pv rfl dC (want_none rfl) (p_val evA) ?_
      refine w_nil ?_
      repeat refine s_seq ?_
      refine s_cond (t := false) slA ?_
      repeat refine s_seq ?_
      refine s_skip ?_
      repeat refine s_seq ?_
      refine s_region ?_
      refine w_pv rfl dC (want_none rfl) (p_val evA) ?_
      refine w_nil ?_
      repeat refine s_seq ?_
      refine s_cond (t := false) slA ?_
      repeat refine s_seq ?_
      refine s_skip ?_
      repeat refine s_seq ?_
      refine s_region ?_
      refine w_pv rfl dC (want_none rfl) (p_val evA) ?_
      refine w_pv rfl dC (want_none rfl) (p_val evA) ?_
      refine w_pv rfl dC (want_none rfl) (p_val evA) ?_
      refine w_nil ?_
      repeat refine s_seq ?_
      refine s_cond (t := false) slA ?_
      repeat refine s_seq ?_
      refine s_skip ?_
      repeat refine s_seq ?_
      refine s_region ?_
      refine w_pv rfl dC (want_none rfl) (p_val evA) ?_
      refine w_pv rfl dC (want_none rfl) (p_val evA) ?_
      refine w_pv rfl dC (want_none rfl) (p_val evA) ?_
      refine w_nil ?_
      repeat refine s_seq ?_
      refine s_cond (t := true) slA ?_
      repeat refine s_seq ?_
      refine s_region ?_
      refine w_pv rfl dC (want_none rfl) (p_val evA) ?_
      refine w_nil ?_
      exact s_ret ⟨_, res_one rfl rfl, rfl, slA⟩
    · have e2 : decide (a > b) = false := decide_eq_false hgt
      simp only [if_neg hgt]
      clear hlt hgt
      repeat refine s_seq ?_
      refine s_region ?_
      refine w_pv rfl dC (want_none rfl) (p_val evA) ?_
      refine w_nil ?_
      repeat refine s_seq ?_
      refine s_region ?_
      refine w_pv rfl dC (want_none rfl) (p_val evA) ?_
      refine w_ac rfl dC (want_none rfl) (s_call rfl rfl Try.func68 kR kR evA ?_); refine (isNaNInt_ok _ _).mono ?_; rintro _ h ⟨rfl, rfl⟩
      refine w_pv rfl dC (want_none rfl) (p_val evA) ?_
      refine w_nil ?_
      repeat refine s_seq ?_
      refine s_region ?_
      refine w_pv rfl dC (want_none rfl) (p_val evA) ?_
      refine w_ac rfl dC (want_none rfl) (s_call rfl rfl Try.func68 kR kR evA ?_); refine (isNaNInt_ok _ _).mono ?_; rintro _ h ⟨rfl, rfl⟩
      refine w_pv rfl dC (want_none rfl) (p_val evA) ?_
      refine w_nil ?_
      repeat refine s_seq ?_
      refine s_region ?_
      refine w_pv rfl dC (want_none rfl) (p_val evA) ?_
      refine w_nil ?_
      repeat refine s_seq ?_
      refine s_cond (t := false) slA ?_
      repeat refine s_seq ?_
      refine s_skip ?_
      repeat refine s_seq ?_
      refine s_region ?_
      refine w_pv rfl dC (want_none rfl) (p_val evA) ?_
      refine w_nil ?_
      repeat refine s_seq ?_
      refine s_cond (t := false) slA ?_
      repeat refine s_seq ?_
      refine s_skip ?_
      repeat refine s_seq ?_
      refine s_region ?_
      refine w_pv rfl dC (want_none rfl) (p_val evA) ?_
      refine w_pv rfl dC (want_none rfl) (p_val evA) ?_
      refine w_pv rfl dC (want_none rfl) (p_val evA) ?_
      refine w_nil ?_
      repeat refine s_seq ?_
      refine s_cond (t := false) slA ?_
      repeat refine s_seq ?_
      refine s_skip ?_
      repeat refine s_seq ?_
      refine s_region ?_
      refine w_pv rfl dC (want_none rfl) (p_val evA) ?_
      refine w_pv rfl dC (want_none rfl) (p_val evA) ?_
      refine w_pv rfl dC (want_none rfl) (p_val evA) ?_
      refine w_nil ?_
      repeat refine s_seq ?_
      refine s_cond (t := false) slA ?_
      repeat refine s_seq ?_
      refine s_skip ?_
      repeat refine s_seq ?_
      refine s_region ?_
      refine w_pv rfl dC (want_none rfl) (p_val evA) ?_
      refine w_nil ?_
      exact s_ret ⟨_, res_one rfl rfl, rfl, slA⟩
theorem isNaNAddr_ok (a : Int) (h : Heap) : SCalls Try.prog 67 #[.int .u32 a] h (fun r h' => h' = h ∧ r = .bool false) := by
  refine s_enter Try.func67 rfl (by rw [Try.ntmps67]; simp) ?_
  rw [Try.ntmps67]
  generalize hT : T0 #[.int .u32 a] = T
  have h0 : T 0 = .int .u32 a := by rw [← hT]; rfl
  clear hT
  repeat refine s_seq ?_
  refine s_region ?_
  refine w_pv rfl dC (want_none rfl) (p_val evA) ?_
  refine w_nil ?_
  repeat refine s_seq ?_
  refine s_region ?_
  refine w_pv rfl dC (want_none rfl) (p_val evA) ?_
  refine w_pv rfl dC (want_none rfl) (p_val evA) ?_
  refine w_pv rfl dC (want_none rfl) (p_val evA) ?_
  refine w_pv rfl dC (want_none rfl) (p_val evA) ?_
  refine w_nil ?_
  exact s_ret ⟨_, res_one rfl rfl, rfl, slA⟩
theorem cmpAddr_ok (a b : Int) (h : Heap) : SCalls Try.prog 58 #[.int .u32 a, .int .u32 b] h (fun r h' => h' = h ∧ r = .int .i64 (cmpI a b)) := by
  refine s_enter Try.func58 rfl (by rw [Try.ntmps58]; simp) ?_
  rw [Try.ntmps58]
  generalize hT : T0 #[.int .u32 a, .int .u32 b] = T
  have h0 : T 0 = .int .u32 a := by rw [← hT]; rfl
  have h1 : T 1 = .int .u32 b := by rw [← hT]; rfl
  clear hT
  unfold cmpI
  by_cases hlt : a < b
  · have e1 : decide (a < b) = true := decide_eq_true hlt
    simp only [if_pos hlt]
    clear hlt
    repeat refine s_seq ?_
    refine s_region ?_
    refine w_pv rfl dC (want_none rfl) (p_val evA) ?_
    refine w_nil ?_
    repeat refine s_seq ?_
    refine s_region ?_
    refine w_pv rfl dC (want_none rfl) (p_val evA) ?_
    refine w_ac rfl dC (want_none rfl) (s_call rfl rfl Try.func67 kR kR evA ?_); refine (isNaNAddr_ok _ _).mono ?_; rintro _ h ⟨rfl, rfl⟩
    refine w_pv rfl dC (want_none rfl) (p_val evA) ?_
    refine w_nil ?_
    repeat refine s_seq ?_
    refine s_region ?_
    refine w_pv rfl dC (want_none rfl) (p_val evA) ?_
    refine w_ac rfl dC (want_none rfl) (s_call rfl rfl Try.func67 kR kR evA ?_); refine (isNaNAddr_ok _ _).mono ?_; rintro _ h ⟨rfl, rfl⟩
    refine w_pv rfl dC (want_none rfl) (p_val evA) ?_
    refine w_nil ?_
    repeat refine s_seq ?_
    refine s_region ?_
    refine w_pv rfl dC (want_none rfl) (p_val evA) ?_
    refine w_nil ?_
    repeat refine s_seq ?_
    refine s_cond (t := false) slA ?_
    repeat refine s_seq ?_
    refine s_skip ?_
    repeat refine s_seq ?_
    refine s_region ?_
    refine w_pv rfl dC (want_none rfl) (p_val evA) ?_
    refine w_nil ?_
    repeat refine s_seq ?_
    refine s_cond (t := false) slA ?_
    repeat refine s_seq ?_
    refine s_skip ?_
    repeat refine s_seq ?_
    refine s_region ?_
    refine w_pv rfl dC (want_none rfl) (p_val evA) ?_
    refine w_pv rfl dC (want_none rfl) (p_val evA) ?_
    refine w_pv rfl dC (want_none rfl) (p_val evA) ?_
    refine w_nil ?_
    repeat refine s_seq ?_
    refine s_cond (t := true) slA ?_
    repeat refine s_seq ?_
    refine s_region ?_
    refine w_pv rfl dC (want_none rfl) (p_val evA) ?_
    refine w_nil ?_
    exact s_ret ⟨_, res_one rfl rfl, rfl, slA⟩
  · have e1 : decide (a < b) = false := decide_eq_false hlt
    simp only [if_neg hlt]
    by_cases hgt : a > b
    · have e2 : decide (a > b) = true := decide_eq_true hgt
      simp only [if_pos hgt]
      clear hlt hgt
      repeat refine s_seq ?_
      refine s_region ?_
      refine w_pv rfl dC (want_none rfl) (p_val evA) ?_
      refine w_nil ?_
      repeat refine s_seq ?_
      refine s_region ?_
      refine w_pv rfl dC (want_none rfl) (p_val evA) ?_
      refine w_ac rfl dC (want_none rfl) (s_call rfl rfl Try.func67 kR kR evA ?_); refine (isNaNAddr_ok _ _).mono ?_; rintro _ h ⟨rfl, rfl⟩
      refine w_pv rfl dC (want_none rfl) (p_val evA) ?_
      refine w_nil ?_
      repeat refine s_seq ?_
      refine s_region ?_
      refine w_pv rfl dC (want_none rfl) (p_val evA) ?_
      refine w_ac rfl dC (want_none rfl) (s_call rfl rfl Try.func67 kR kR evA ?_); refine (isNaNAddr_ok _ _).mono ?_; rintro _ h ⟨rfl, rfl⟩
      refine w_pv rfl dC (want_none rfl) (p_val evA) ?_
      refine w_nil ?_
      repeat refine s_seq ?_
      refine s_region ?_
      refine w_pv rfl dC (want_none rfl) (p_val evA) ?_
      refine w_nil ?_
      repeat refine s_seq ?_
      refine s_cond (t := false) slA ?_
      repeat refine s_seq ?_
      refine s_skip ?_
      repeat refine s_seq ?_
      refine s_region ?_
      refine w_pv rfl dC (want_none rfl) (p_val evA) ?_
      refine w_nil ?_
      repeat refine s_seq ?_
      refine s_cond (t := false) slA ?_
      repeat refine s_seq ?_
      refine s_skip ?_
      repeat refine s_seq ?_
      refine s_region ?_
      refine w_pv rfl dC (want_none rfl) (p_val evA) ?_
      refine w_pv rfl dC (want_none rfl) (p_val evA) ?_
      refine w_pv rfl dC (want_none rfl) (p_val evA) ?_
      refine w_nil ?_
      repeat refine s_seq ?_
      refine s_cond (t := false) slA ?_
      repeat refine s_seq ?_
      refine s_skip ?_
      repeat refine s_seq ?_
      refine s_region ?_
      refine w_pv rfl dC (want_none rfl) (p_val evA) ?_
      refine w_pv rfl dC (want_none rfl) (p_val evA) ?_
      refine w_pv rfl dC (want_none rfl) (p_val evA) ?_
      refine w_nil ?_
      repeat refine s_seq ?_
      refine s_cond (t := true) slA ?_
      repeat refine s_seq ?_
      refine s_region ?_
      refine w_pv rfl dC (want_none rfl) (p_val evA) ?_
      refine w_nil ?_
      exact s_ret ⟨_, res_one rfl rfl, rfl, slA⟩
    · have e2 : decide (a > b) = false := decide_eq_false hgt
      simp only [if_neg hgt]
      clear hlt hgt
      repeat refine s_seq ?_
      refine s_region ?_
      refine w_pv rfl dC (want_none rfl) (p_val evA) ?_
      refine w_nil ?_
      repeat refine s_seq ?_
      refine s_region ?_
      refine w_pv rfl dC (want_none rfl) (p_val evA) ?_
      refine w_ac rfl dC (want_none rfl) (s_call rfl rfl Try.func67 kR kR evA ?_); refine (isNaNAddr_ok _ _).mono ?_; rintro _ h ⟨rfl, rfl⟩
      refine w_pv rfl dC (want_none rfl) (p_val evA) ?_
      refine w_nil ?_
      repeat refine s_seq ?_
      refine s_region ?_
      refine w_pv rfl dC (want_none rfl) (p_val evA) ?_
      refine w_ac rfl dC (want_none rfl) (s_call rfl rfl Try.func67 kR kR evA ?_); refine (isNaNAddr_ok _ _).mono ?_; rintro _ h ⟨rfl, rfl⟩
      refine w_pv rfl dC (want_none rfl) (p_val evA) ?_
      refine w_nil ?_
      repeat refine s_seq ?_
      refine s_region ?_
      refine w_pv rfl dC (want_none rfl) (p_val evA) ?_
      refine w_nil ?_
      repeat refine s_seq ?_
      refine s_cond (t := false) slA ?_
      repeat refine s_seq ?_
      refine s_skip ?_
      repeat refine s_seq ?_
      refine s_region ?_
      refine w_pv rfl dC (want_none rfl) (p_val evA) ?_
      refine w_nil ?_
      repeat refine s_seq ?_
      refine s_cond (t := false) slA ?_
      repeat refine s_seq ?_
      refine s_skip ?_
      repeat refine s_seq ?_
      refine s_region ?_
      refine w_pv rfl dC (want_none rfl) (p_val evA) ?_
      refine w_pv rfl dC (want_none rfl) (p_val evA) ?_
      refine w_pv rfl dC (want_none rfl) (p_val evA) ?_
      refine w_nil ?_
      repeat refine s_seq ?_
      refine s_cond (t := false) slA ?_
      repeat refine s_seq ?_
      refine s_skip ?_
      repeat refine s_seq ?_
      refine s_region ?_
      refine w_pv rfl dC (want_none rfl) (p_val evA) ?_
      refine w_pv rfl dC (want_none rfl) (p_val evA) ?_
      refine w_pv rfl dC (want_none rfl) (p_val evA) ?_
      refine w_nil ?_
      repeat refine s_seq ?_
      refine s_cond (t := false) slA ?_
      repeat refine s_seq ?_
      refine s_skip ?_
      repeat refine s_seq ?_
      refine s_region ?_
      refine w_pv rfl dC (want_none rfl) (p_val evA) ?_
      refine w_nil ?_
      exact s_ret ⟨_, res_one rfl rfl, rfl, slA⟩
/-- The first that is not 0. -/
def orI (xs : List Int) : Int := (xs.find? fun x => !(x == 0)).getD 0
theorem or_ok {h : Heap} {v : Value} (xs : List Int) (hc : Cells h 1 v xs.length (xs.map (.int .i64))) (hn : xs.length ≤ 1000000) :
    SCalls Try.prog 57 #[v] h (fun r h' => h' = h ∧ r = .int .i64 (orI xs)) := by
  refine s_enter Try.func57 rfl (by rw [Try.ntmps57]; simp) ?_
  rw [Try.ntmps57]
  obtain ⟨a, c, rfl⟩ := hc.form
  generalize hT : T0 #[.slice a xs.length c] = T
  have h0 : T 0 = .slice a xs.length c := by rw [← hT]; rfl
  clear hT
  repeat refine s_seq ?_
  refine s_region ?_
  refine w_pv rfl dC (want_none rfl) (p_val evA) ?_
  refine w_nil ?_
  repeat refine s_seq ?_
  refine s_region ?_
  refine w_pv rfl dC (want_none rfl) (p_val evA) ?_
  refine w_nil ?_
  repeat refine s_seq ?_
  refine s_region ?_
  refine w_pv rfl dC (want_none rfl) (p_val evA) ?_
  refine w_rd rfl dC (want_none rfl) (r_len_slice rfl Try.underlying28 evA) ?_
  refine w_pv rfl dC (want_none rfl) (p_val evA) ?_
  refine w_nil ?_
  refine (s_block (s_loop (fun m T h' => ∃ i : Nat, m = xs.length - i ∧ i ≤ xs.length ∧ h' = h ∧ (∀ x ∈ xs.take i, x = 0) ∧ T 3 = .int .i64 0 ∧ T 6 = .slice a xs.length c ∧ T 7 = .int .i64 (xs.length : Nat) ∧ T 8 = .int .i64 (i : Nat)) (n0 := xs.length)
    ⟨0, by omega, by omega, rfl, by simp, slA, slA, slA, by simp only [pval, ev, upd, binVal, intBin, Option.map_some, ↓reduceIte, reduceCtorEq, Nat.reduceEqDiff, Nat.reduceBEq, List.map_toArray, List.map_cons, List.map_nil, cond_true, cond_false, decide_true, decide_false, Bool.not_true, Bool.not_false, Bool.true_and, Bool.false_and, Bool.and_true, Bool.and_false, beq_self_eq_true, bne_self_eq_false, List.getElem_toArray, List.getElem_cons_succ, List.getElem_cons_zero, *] <;> rfl⟩ ?_))
  clear h0 T
  rintro m T h' ⟨i, rfl, hi, rfl, hz, h3, h6, h7, h8⟩
  by_cases hlt : i < xs.length
  · have e1 : decide ((i : Int) < (xs.length : Int)) = true := decide_eq_true (by omega)
    have hw3 : IntKind.i64.wrap ((i : Int) + 1) = ((i + 1 : Nat) : Int) := wrap64_nat _ _ (by omega) (by omega)
    obtain ⟨b1, o1, k1, f1, t1, z1, q1, hb1, hg1⟩ := hc.get hlt
    cases q1
    obtain ⟨x, hxi⟩ : ∃ x, xs[i]? = some x := ⟨_, List.getElem?_eq_getElem hlt⟩
    have g1 : f1[o1 + i * 1]? = some (.int .i64 x) := by have := hg1 0 (by omega); simpa [hxi] using this
    clear hg1
    have hii : (0 : Int) ≤ (i : Int) := by omega
    have hi1 : (i : Int) < (xs.length : Int) := by omega
    by_cases hx0 : x = 0
    · have e2 : (x != 0) = false := by simp [hx0]
      have hz2 : ∀ y ∈ xs.take (i + 1), y = 0 := by
        intro y hy
        rw [List.take_add_one, hxi] at hy
        rcases List.mem_append.1 hy with hy | hy
        · exact hz y hy
        · simp at hy; rw [hy]; exact hx0
      clear hx0 hxi
      repeat refine s_seq ?_
      refine s_region ?_
      refine w_pv rfl dC (want_none rfl) (p_val evA) ?_
      refine w_nil ?_
      repeat refine s_seq ?_
      refine s_cond (t := true) slA ?_
      repeat refine s_seq ?_
      refine s_skip ?_
      repeat refine s_seq ?_
      refine s_block ?_
      repeat refine s_seq ?_
      refine s_region ?_
      refine w_pv rfl dC (want_none rfl) (p_indexAddr (sz := 1) rfl Try.underlying28 kR kR evA evA hii hi1) ?_
      refine w_rd rfl dC (want_none rfl) (r_load1 rfl Try.underlying3 rfl evA hpA ceA) ?_
      refine w_pv rfl dC (want_none rfl) (p_val evA) ?_
      refine w_nil ?_
      repeat refine s_seq ?_
      refine s_region ?_
      refine w_pv rfl dC (want_none rfl) (p_val evA) ?_
      refine w_pv rfl dC (want_none rfl) (p_val evA) ?_
      refine w_pv rfl dC (want_none rfl) (p_val evA) ?_
      refine w_nil ?_
      repeat refine s_seq ?_
      refine s_cond (t := false) slA ?_
      repeat refine s_seq ?_
      refine s_skip ?_
      repeat refine s_seq ?_
      refine s_region ?_
      refine w_pv rfl dC (want_none rfl) (p_val evA) ?_
      refine w_pv rfl dC (want_none rfl) (p_val evA) ?_
      refine w_nil ?_
      exact ⟨xs.length - (i + 1), by omega, i + 1, rfl, by omega, rfl, hz2, slA, slA, slA, slA⟩
    · have e2 : (x != 0) = true := by simpa using hx0
      have hor : orI xs = x := by
        unfold orI
        have h1 : xs = xs.take i ++ x :: xs.drop (i + 1) := by
          have : xs[i] = x := (List.getElem?_eq_some_iff.1 hxi).2
          rw [← this, List.getElem_cons_drop, List.take_append_drop]
        have h2 : (xs.take i).find? (fun x => !(x == 0)) = none := by
          rw [List.find?_eq_none]; intro y hy; simp [hz y hy]
        rw [h1, List.find?_append, h2]
        simp [hx0]
      clear hx0 hxi hz
      repeat refine s_seq ?_
      refine s_region ?_
      refine w_pv rfl dC (want_none rfl) (p_val evA) ?_
      refine w_nil ?_
      repeat refine s_seq ?_
      refine s_cond (t := true) slA ?_
      repeat refine s_seq ?_
      refine s_skip ?_
      repeat refine s_seq ?_
      refine s_block ?_
      repeat refine s_seq ?_
      refine s_region ?_
      refine w_pv rfl dC (want_none rfl) (p_indexAddr (sz := 1) rfl Try.underlying28 kR kR evA evA hii hi1) ?_
      refine w_rd rfl dC (want_none rfl) (r_load1 rfl Try.underlying3 rfl evA hpA ceA) ?_
      refine w_pv rfl dC (want_none rfl) (p_val evA) ?_
      refine w_nil ?_
      repeat refine s_seq ?_
      refine s_region ?_
      refine w_pv rfl dC (want_none rfl) (p_val evA) ?_
      refine w_pv rfl dC (want_none rfl) (p_val evA) ?_
      refine w_pv rfl dC (want_none rfl) (p_val evA) ?_
      refine w_nil ?_
      repeat refine s_seq ?_
      refine s_cond (t := true) slA ?_
      repeat refine s_seq ?_
      refine s_region ?_
      refine w_pv rfl dC (want_none rfl) (p_val evA) ?_
      refine w_pv rfl dC (want_none rfl) (p_val evA) ?_
      refine w_nil ?_
      exact s_ret ⟨_, res_one rfl rfl, rfl, slA⟩
  · have e1 : decide ((i : Int) < (xs.length : Int)) = false := decide_eq_false (by omega)
    have hor : orI xs = 0 := by
      unfold orI
      have : xs.find? (fun x => !(x == 0)) = none := by
        rw [List.find?_eq_none]; intro y hy
        have := hz y (by rw [List.take_of_length_le (by omega)]; exact hy)
        simp [this]
      rw [this]; rfl
    clear hz
    repeat refine s_seq ?_
    refine s_region ?_
    refine w_pv rfl dC (want_none rfl) (p_val evA) ?_
    refine w_nil ?_
    repeat refine s_seq ?_
    refine s_cond (t := false) slA ?_
    repeat refine s_seq ?_
    refine s_exit ?_
    repeat refine s_seq ?_
    refine s_region ?_
    refine w_pv rfl dC (want_none rfl) (p_val evA) ?_
    refine w_pv rfl dC (want_none rfl) (p_val evA) ?_
    refine w_nil ?_
    exact s_ret ⟨_, res_one rfl rfl, rfl, slA⟩
end Go.Proofs.Ytielfejpnkcjbaa
