/- AgeOwn: its last part. -/
import Derived.Test.YtielfejpnkcjbaaAgeFirst
set_option linter.unusedVariables false
set_option linter.unusedSimpArgs false
namespace Go.Proofs.Ytielfejpnkcjbaa
open Sl
theorem cmpI_anti (a b : Int) : cmpI b a = -cmpI a b := by unfold cmpI; split <;> split <;> (try split) <;> (try split) <;> omega
theorem cmpI_zero {a b : Int} (h : cmpI a b = 0) : a = b := by unfold cmpI at h; split at h <;> (try split at h) <;> omega
theorem orI_neg : ∀ xs : List Int, orI (xs.map (fun x => -x)) = -orI xs
  | [] => rfl
  | x :: xs => by
    have ih := orI_neg xs
    unfold orI at ih ⊢
    by_cases h : x = 0
    · subst h; simpa using ih
    · simp [h]
theorem orI_zero : ∀ {xs : List Int}, orI xs = 0 → ∀ x ∈ xs, x = 0
  | [], _, x, hx => by cases hx
  | y :: xs, h, x, hx => by
    by_cases hy : y = 0
    · rcases List.mem_cons.1 hx with rfl | hx
      · exact hy
      · refine orI_zero (xs := xs) ?_ x hx
        unfold orI at h ⊢; subst hy; simpa using h
    · unfold orI at h; simp [hy] at h
theorem less_anti {a b : ThK} (hab : a ≠ b) : (decide (cmpT a b < 0) != decide (cmpT b a < 0)) = true := by
  have h1 : cmpT b a = -cmpT a b := by
    unfold cmpT
    rw [← orI_neg]
    simp [cmpI_anti a.1.1, cmpI_anti a.1.2.1, cmpI_anti a.2.2, cmpI_anti a.2.1, cmpI_anti a.1.2.2]
  have h2 : cmpT a b ≠ 0 := fun e => hab (by
    have hz := orI_zero e
    simp only [List.mem_cons, List.not_mem_nil, or_false, forall_eq_or_imp, forall_eq] at hz
    obtain ⟨z1, z2, z3, z4, z5⟩ := hz
    exact Prod.ext (Prod.ext (cmpI_zero z1) (Prod.ext (cmpI_zero z2) (cmpI_zero z5))) (Prod.ext (cmpI_zero z4) (cmpI_zero z3)))
  rw [h1]
  by_cases h : cmpT a b < 0
  · simp [h]; omega
  · simp [h]; omega
/-- The right part of a sequence. -/
def sndS : Code → Code
  | .seq _ y => y
  | c => c
def sndN : Nat → Code → Code
  | 0, c => c
  | k + 1, c => sndN k (sndS c)
noncomputable def ownTail : Code := sndN 12 (Try.f5.body.getD .skip)
theorem ageOwn_tail (m n : MsgA) (am an : Option Addr) (cm cn : Nat) (a b : ThK) (h h13 : Heap) (T : Tm) (D13 : Nat → Prop) (b4 b5 b6 b7 b10 : Nat) (hcm : Cells h 1 (.slice am m.srcs.length cm) m.srcs.length (m.srcs.map (.int .u32))) (hcn : Cells h 1 (.slice an n.srcs.length cn) n.srcs.length (n.srcs.map (.int .u32))) (hm : m.srcs.length ≤ 10) (hn : n.srcs.length ≤ 10)
    (v4 : h13 b4 = some (.cells #[.int .i64 m.kind, .int .u32 m.frm, .int .u32 m.to, .int .u32 m.src, .int .u32 m.grp, .int .i64 m.rank, .int .i64 m.cost, .bool m.only, .slice am m.srcs.length cm] 55 (0, 0)))
    (v5 : h13 b5 = some (.cells #[.int .i64 n.kind, .int .u32 n.frm, .int .u32 n.to, .int .u32 n.src, .int .u32 n.grp, .int .i64 n.rank, .int .i64 n.cost, .bool n.only, .slice an n.srcs.length cn] 55 (0, 0)))
    (v6 : h13 b6 = some (.cells #[.int .i64 a.1.1, .int .i64 a.1.2.1, .int .u32 a.1.2.2, .int .u32 a.2.1, .int .u32 a.2.2] 57 (0, 0)))
    (v7 : h13 b7 = some (.cells #[.int .i64 b.1.1, .int .i64 b.1.2.1, .int .u32 b.1.2.2, .int .u32 b.2.1, .int .u32 b.2.2] 57 (0, 0)))
    (hle13 : h.le h13) (t13 : TableAt h13 D13 b10 (putT [⟨a, 1, m⟩] b n))
    (t4 : T 4 = .pointer (some ⟨b4, 0, none⟩)) (t5 : T 5 = .pointer (some ⟨b5, 0, none⟩)) (t6 : T 6 = .pointer (some ⟨b6, 0, none⟩)) (t7' : T 7 = .pointer (some ⟨b7, 0, none⟩)) (t9 : T 9 = .bool true) (t10 : T 10 = .pointer (some ⟨b10, 0, none⟩)) :
    SCode Try.prog 160 ownTail (retQ Try.prog Try.f5 fun r h' => h.le h' ∧ r = .bool true) T h13 := by
  have hag : (Value.agg #[.int .i64 a.1.1, .int .i64 a.1.2.1, .int .u32 a.1.2.2, .int .u32 a.2.1, .int .u32 a.2.2]) = thV a := rfl
  have hbg : (Value.agg #[.int .i64 b.1.1, .int .i64 b.1.2.1, .int .u32 b.1.2.2, .int .u32 b.2.1, .int .u32 b.2.2]) = thV b := rfl
  have hput : ∃ x ∈ putT [⟨a, 1, m⟩] b n, x.key = a ∧ (∀ y ∈ putT [⟨a, 1, m⟩] b n, y.key = a → y = x) ∧ ((a = b ∧ x = ⟨a, 0, n⟩ ∧ (putT [⟨a, 1, m⟩] b n).length = 1) ∨ (a ≠ b ∧ x = ⟨a, 1, m⟩ ∧ (putT [⟨a, 1, m⟩] b n).length = 2)) := by
    by_cases hab : a = b
    · subst hab
      refine ⟨⟨a, 0, n⟩, by simp [putT], rfl, by intro y hy _; simpa [putT] using hy, .inl ⟨rfl, rfl, by simp [putT]⟩⟩
    · refine ⟨⟨a, 1, m⟩, by simp [putT, hab], rfl, ?_, .inr ⟨hab, rfl, by simp [putT, hab]⟩⟩
      intro y hy hk
      simp only [putT, List.any_cons, List.any_nil, Bool.or_false, decide_eq_true_eq, hab, if_false, List.cons_append, List.nil_append, List.mem_cons, List.not_mem_nil, or_false] at hy
      rcases hy with rfl | rfl
      · rfl
      · exact absurd hk.symm hab
  obtain ⟨x, hx, hxk, hxu, hcase⟩ := hput
  generalize putT [⟨a, 1, m⟩] b n = ts at t13 hx hxu hcase
  repeat refine s_seq ?_
  refine s_region ?_
  refine w_rd rfl dC (want_none rfl) (r_loadN (n := 5) rfl Try.underlying57 rfl evA hpA kR szA) ?_
  refine w_ac rfl dC (want_none rfl) (s_call rfl rfl Try.func24 kR kR evA ?_); refine (tget_ok a t13 x hx hxk hxu).mono ?_; rintro r h14 ⟨hle14, sv2, rfl, hc14, hn14, ho14⟩
  refine w_pv rfl dC (want_none rfl) (p_val evA) ?_
  refine w_pv rfl dC (want_none rfl) (p_val evA) ?_
  refine w_pv rfl dC (want_none rfl) (p_val evA) ?_
  refine w_al rfl dC (want_none rfl) (a_allocZ (z := .agg #[.int .i64 0, .int .i64 0, .int .u32 0, .int .u32 0, .int .u32 0, .int .i64 0, .int .i64 0, .int .u32 0, .int .u32 0, .int .u32 0, .int .u32 0, .int .i64 0, .int .i64 0, .bool false, .slice none 0 0]) (zs := #[.int .i64 0, .int .i64 0, .int .u32 0, .int .u32 0, .int .u32 0, .int .i64 0, .int .i64 0, .int .u32 0, .int .u32 0, .int .u32 0, .int .u32 0, .int .i64 0, .int .i64 0, .bool false, .slice none 0 0]) rfl kR rfl) ?_
  intro b15 hb15
  refine w_st rfl (want_none rfl) (s_storeN (n := 15) rfl evA evA ocA kR szA kR hpA szA ?_)
  refine w_pv rfl dC (want_none rfl) (p_val evA) ?_
  refine w_nil ?_
  rw [set_set]
  refine genH fun h15 hh => ?_
  have v15 : h15 b15 = some (.cells #[.int .i64 a.1.1, .int .i64 a.1.2.1, .int .u32 a.1.2.2, .int .u32 a.2.1, .int .u32 a.2.2, .int .i64 x.age, .int .i64 x.msg.kind, .int .u32 x.msg.frm, .int .u32 x.msg.to, .int .u32 x.msg.src, .int .u32 x.msg.grp, .int .i64 x.msg.rank, .int .i64 x.msg.cost, .bool x.msg.only, sv2] 64 (0, 0)) := by rw [hh]; exact Heap.set_same _ _ _
  have hle15 : h13.le h15 := by rw [hh]; exact Heap.le_trans hle14 (Heap.le_set _ hb15)
  have hc15 : Cells h15 1 sv2 x.msg.srcs.length (x.msg.srcs.map (.int .u32)) := by rw [hh]; exact hc14.le (Heap.le_set _ hb15)
  clear hh hc14 hle14 hb15
  replace v4 := hle15 _ _ v4
  replace v5 := hle15 _ _ v5
  replace v6 := hle15 _ _ v6
  replace v7 := hle15 _ _ v7
  have t15 := t13.le hle15
  replace hle13 := Heap.le_trans hle13 hle15
  clear t13 hle15
  refine s_seq ?_
  refine s_join (fun T h' => h15.le h' ∧ T 4 = .pointer (some ⟨b4, 0, none⟩) ∧ T 5 = .pointer (some ⟨b5, 0, none⟩) ∧ T 6 = .pointer (some ⟨b6, 0, none⟩) ∧ T 7 = .pointer (some ⟨b7, 0, none⟩) ∧ T 9 = .bool true ∧ T 10 = .pointer (some ⟨b10, 0, none⟩) ∧ T 15 = .pointer (some ⟨b15, 0, none⟩) ∧ T 16 = .bool true ∧ T 17 = .bool (decide (a = b))) ?_ ?_
  · have hka : (Value.agg #[.int .u32 a.2.1, .int .u32 a.2.2]) = keyV a.2.1 a.2.2 := rfl
    have hkb : (Value.agg #[.int .u32 b.2.1, .int .u32 b.2.2]) = keyV b.2.1 b.2.2 := rfl
    have hdec : decide (a = b) = (a.1.1 == b.1.1 && (a.1.2.1 == b.1.2.1 && (a.1.2.2 == b.1.2.2 && (a.2.1 == b.2.1 && a.2.2 == b.2.2)))) := by
      obtain ⟨⟨a1, a2, a3⟩, a4, a5⟩ := a
      obtain ⟨⟨c1, c2, c3⟩, c4, c5⟩ := b
      rw [Bool.eq_iff_iff]; simp; omega
    rw [hdec]
    clear hdec hcase
    cases e1 : (a.1.1 == b.1.1) with
    | false =>
      repeat refine s_seq ?_
      refine s_region ?_
      refine w_pv rfl dC (want_none rfl) (p_fieldAddr (k := 0) rfl evA kR) ?_
      refine w_rd rfl dC (want_none rfl) (r_load1 rfl Try.underlying3 rfl evA hpA ceA) ?_
      refine w_pv rfl dC (want_none rfl) (p_fieldAddr (k := 0) rfl evA kR) ?_
      refine w_rd rfl dC (want_none rfl) (r_load1 rfl Try.underlying3 rfl evA hpA ceA) ?_
      refine w_pv rfl dC (want_none rfl) (p_val evA) ?_
      refine w_pv rfl dC (want_none rfl) (p_val evA) ?_
      refine w_skp rfl dC (want_not rfl rfl evA rfl) ?_
      refine w_skp rfl dC (want_not rfl rfl evA rfl) ?_
      refine w_skp rfl dC (want_not rfl rfl evA rfl) ?_
      refine w_skp rfl dC (want_not rfl rfl evA rfl) ?_
      refine w_skp rfl dC (want_not rfl rfl evA rfl) ?_
      refine w_pv rfl dC (want_none rfl) (p_val evA) ?_
      refine w_pv rfl dC (want_none rfl) (p_val evA) ?_
      refine w_skp rfl dC (want_not rfl rfl evA rfl) ?_
      refine w_skp rfl dC (want_not rfl rfl evA rfl) ?_
      refine w_skp rfl dC (want_not rfl rfl evA rfl) ?_
      refine w_skp rfl dC (want_not rfl rfl evA rfl) ?_
      refine w_skp rfl dC (want_not rfl rfl evA rfl) ?_
      refine w_pv rfl dC (want_none rfl) (p_val evA) ?_
      refine w_pv rfl dC (want_none rfl) (p_val evA) ?_
      refine w_skp rfl dC (want_not rfl rfl evA rfl) ?_
      refine w_skp rfl dC (want_not rfl rfl evA rfl) ?_
      refine w_skp rfl dC (want_not rfl rfl evA rfl) ?_
      refine w_skp rfl dC (want_not rfl rfl evA rfl) ?_
      refine w_skp rfl dC (want_not rfl rfl evA rfl) ?_
      refine w_pv rfl dC (want_none rfl) (p_val evA) ?_
      refine w_pv rfl dC (want_none rfl) (p_val evA) ?_
      refine w_nil ?_
      exact ⟨Heap.le_refl _, slA, slA, slA, slA, slA, slA, slA, slA, slA⟩
    | true =>
      cases e2 : (a.1.2.1 == b.1.2.1) with
      | false =>
        repeat refine s_seq ?_
        refine s_region ?_
        refine w_pv rfl dC (want_none rfl) (p_fieldAddr (k := 0) rfl evA kR) ?_
        refine w_rd rfl dC (want_none rfl) (r_load1 rfl Try.underlying3 rfl evA hpA ceA) ?_
        refine w_pv rfl dC (want_none rfl) (p_fieldAddr (k := 0) rfl evA kR) ?_
        refine w_rd rfl dC (want_none rfl) (r_load1 rfl Try.underlying3 rfl evA hpA ceA) ?_
        refine w_pv rfl dC (want_none rfl) (p_val evA) ?_
        refine w_pv rfl dC (want_none rfl) (p_val evA) ?_
        refine w_pv rfl dC (want_let rfl rfl evA) (p_fieldAddr (k := 1) rfl evA kR) ?_
        refine w_rd rfl dC (want_let rfl rfl evA) (r_load1 rfl Try.underlying3 rfl evA hpA ceA) ?_
        refine w_pv rfl dC (want_let rfl rfl evA) (p_fieldAddr (k := 1) rfl evA kR) ?_
        refine w_rd rfl dC (want_let rfl rfl evA) (r_load1 rfl Try.underlying3 rfl evA hpA ceA) ?_
        refine w_pv rfl dC (want_let rfl rfl evA) (p_val evA) ?_
        refine w_pv rfl dC (want_none rfl) (p_val evA) ?_
        refine w_pv rfl dC (want_none rfl) (p_val evA) ?_
        refine w_skp rfl dC (want_not rfl rfl evA rfl) ?_
        refine w_skp rfl dC (want_not rfl rfl evA rfl) ?_
        refine w_skp rfl dC (want_not rfl rfl evA rfl) ?_
        refine w_skp rfl dC (want_not rfl rfl evA rfl) ?_
        refine w_skp rfl dC (want_not rfl rfl evA rfl) ?_
        refine w_pv rfl dC (want_none rfl) (p_val evA) ?_
        refine w_pv rfl dC (want_none rfl) (p_val evA) ?_
        refine w_skp rfl dC (want_not rfl rfl evA rfl) ?_
        refine w_skp rfl dC (want_not rfl rfl evA rfl) ?_
        refine w_skp rfl dC (want_not rfl rfl evA rfl) ?_
        refine w_skp rfl dC (want_not rfl rfl evA rfl) ?_
        refine w_skp rfl dC (want_not rfl rfl evA rfl) ?_
        refine w_pv rfl dC (want_none rfl) (p_val evA) ?_
        refine w_pv rfl dC (want_none rfl) (p_val evA) ?_
        refine w_nil ?_
        exact ⟨Heap.le_refl _, slA, slA, slA, slA, slA, slA, slA, slA, slA⟩
      | true =>
        cases e3 : (a.1.2.2 == b.1.2.2) with
        | false =>
          repeat refine s_seq ?_
          refine s_region ?_
          refine w_pv rfl dC (want_none rfl) (p_fieldAddr (k := 0) rfl evA kR) ?_
          refine w_rd rfl dC (want_none rfl) (r_load1 rfl Try.underlying3 rfl evA hpA ceA) ?_
          refine w_pv rfl dC (want_none rfl) (p_fieldAddr (k := 0) rfl evA kR) ?_
          refine w_rd rfl dC (want_none rfl) (r_load1 rfl Try.underlying3 rfl evA hpA ceA) ?_
          refine w_pv rfl dC (want_none rfl) (p_val evA) ?_
          refine w_pv rfl dC (want_none rfl) (p_val evA) ?_
          refine w_pv rfl dC (want_let rfl rfl evA) (p_fieldAddr (k := 1) rfl evA kR) ?_
          refine w_rd rfl dC (want_let rfl rfl evA) (r_load1 rfl Try.underlying3 rfl evA hpA ceA) ?_
          refine w_pv rfl dC (want_let rfl rfl evA) (p_fieldAddr (k := 1) rfl evA kR) ?_
          refine w_rd rfl dC (want_let rfl rfl evA) (r_load1 rfl Try.underlying3 rfl evA hpA ceA) ?_
          refine w_pv rfl dC (want_let rfl rfl evA) (p_val evA) ?_
          refine w_pv rfl dC (want_none rfl) (p_val evA) ?_
          refine w_pv rfl dC (want_none rfl) (p_val evA) ?_
          refine w_pv rfl dC (want_let rfl rfl evA) (p_fieldAddr (k := 2) rfl evA kR) ?_
          refine w_rd rfl dC (want_let rfl rfl evA) (r_load1 rfl Try.underlying23 rfl evA hpA ceA) ?_
          refine w_pv rfl dC (want_let rfl rfl evA) (p_fieldAddr (k := 2) rfl evA kR) ?_
          refine w_rd rfl dC (want_let rfl rfl evA) (r_load1 rfl Try.underlying23 rfl evA hpA ceA) ?_
          refine w_pv rfl dC (want_let rfl rfl evA) (p_val evA) ?_
          refine w_pv rfl dC (want_none rfl) (p_val evA) ?_
          refine w_pv rfl dC (want_none rfl) (p_val evA) ?_
          refine w_skp rfl dC (want_not rfl rfl evA rfl) ?_
          refine w_skp rfl dC (want_not rfl rfl evA rfl) ?_
          refine w_skp rfl dC (want_not rfl rfl evA rfl) ?_
          refine w_skp rfl dC (want_not rfl rfl evA rfl) ?_
          refine w_skp rfl dC (want_not rfl rfl evA rfl) ?_
          refine w_pv rfl dC (want_none rfl) (p_val evA) ?_
          refine w_pv rfl dC (want_none rfl) (p_val evA) ?_
          refine w_nil ?_
          exact ⟨Heap.le_refl _, slA, slA, slA, slA, slA, slA, slA, slA, slA⟩
        | true =>
          repeat refine s_seq ?_
          refine s_region ?_
          refine w_pv rfl dC (want_none rfl) (p_fieldAddr (k := 0) rfl evA kR) ?_
          refine w_rd rfl dC (want_none rfl) (r_load1 rfl Try.underlying3 rfl evA hpA ceA) ?_
          refine w_pv rfl dC (want_none rfl) (p_fieldAddr (k := 0) rfl evA kR) ?_
          refine w_rd rfl dC (want_none rfl) (r_load1 rfl Try.underlying3 rfl evA hpA ceA) ?_
          refine w_pv rfl dC (want_none rfl) (p_val evA) ?_
          refine w_pv rfl dC (want_none rfl) (p_val evA) ?_
          refine w_pv rfl dC (want_let rfl rfl evA) (p_fieldAddr (k := 1) rfl evA kR) ?_
          refine w_rd rfl dC (want_let rfl rfl evA) (r_load1 rfl Try.underlying3 rfl evA hpA ceA) ?_
          refine w_pv rfl dC (want_let rfl rfl evA) (p_fieldAddr (k := 1) rfl evA kR) ?_
          refine w_rd rfl dC (want_let rfl rfl evA) (r_load1 rfl Try.underlying3 rfl evA hpA ceA) ?_
          refine w_pv rfl dC (want_let rfl rfl evA) (p_val evA) ?_
          refine w_pv rfl dC (want_none rfl) (p_val evA) ?_
          refine w_pv rfl dC (want_none rfl) (p_val evA) ?_
          refine w_pv rfl dC (want_let rfl rfl evA) (p_fieldAddr (k := 2) rfl evA kR) ?_
          refine w_rd rfl dC (want_let rfl rfl evA) (r_load1 rfl Try.underlying23 rfl evA hpA ceA) ?_
          refine w_pv rfl dC (want_let rfl rfl evA) (p_fieldAddr (k := 2) rfl evA kR) ?_
          refine w_rd rfl dC (want_let rfl rfl evA) (r_load1 rfl Try.underlying23 rfl evA hpA ceA) ?_
          refine w_pv rfl dC (want_let rfl rfl evA) (p_val evA) ?_
          refine w_pv rfl dC (want_none rfl) (p_val evA) ?_
          refine w_pv rfl dC (want_none rfl) (p_val evA) ?_
          refine w_pv rfl dC (want_let rfl rfl evA) (p_fieldAddr (k := 3) rfl evA kR) ?_
          refine w_rd rfl dC (want_let rfl rfl evA) (r_loadN (n := 2) rfl Try.underlying52 rfl evA hpA kR szA) ?_
          refine w_pv rfl dC (want_let rfl rfl evA) (p_fieldAddr (k := 3) rfl evA kR) ?_
          refine w_rd rfl dC (want_let rfl rfl evA) (r_loadN (n := 2) rfl Try.underlying52 rfl evA hpA kR szA) ?_
          refine w_ac rfl dC (want_let rfl rfl evA) (s_call rfl rfl Try.func26 kR kR evA ?_); refine (sameKey_ok a.2.1 a.2.2 b.2.1 b.2.2 _).mono ?_; rintro r h16 ⟨hle16, rfl⟩
          refine w_pv rfl dC (want_none rfl) (p_val evA) ?_
          refine w_pv rfl dC (want_none rfl) (p_val evA) ?_
          refine w_nil ?_
          exact ⟨hle16, slA, slA, slA, slA, slA, slA, slA, slA, slA⟩
  · clear t4 t5 t6 t7' t9 t10 T
    rintro T h16 ⟨hle16, t4, t5, t6, t7', t9, t10, t15', t16, t17⟩
    replace v4 := hle16 _ _ v4
    replace v5 := hle16 _ _ v5
    replace v6 := hle16 _ _ v6
    replace v7 := hle16 _ _ v7
    replace v15 := hle16 _ _ v15
    replace hc15 := hc15.le hle16
    replace t15 := t15.le hle16
    replace hle13 := Heap.le_trans hle13 hle16
    clear hle16 hx hxu
    have hmg : (Value.agg #[.int .i64 m.kind, .int .u32 m.frm, .int .u32 m.to, .int .u32 m.src, .int .u32 m.grp, .int .i64 m.rank, .int .i64 m.cost, .bool m.only, .slice am m.srcs.length cm]) = msgV m (.slice am m.srcs.length cm) := rfl
    have hng : (Value.agg #[.int .i64 n.kind, .int .u32 n.frm, .int .u32 n.to, .int .u32 n.src, .int .u32 n.grp, .int .i64 n.rank, .int .i64 n.cost, .bool n.only, .slice an n.srcs.length cn]) = msgV n (.slice an n.srcs.length cn) := rfl
    rcases hcase with ⟨hab, rfl, hl⟩ | ⟨hab, rfl, hl⟩
    · have e1 : decide (a = b) = true := decide_eq_true hab
      rw [e1] at t17
      clear e1 hab
      repeat refine s_seq ?_
      refine s_region ?_
      refine w_pv rfl dC (want_none rfl) (p_val evA) ?_
      refine w_nil ?_
      repeat refine s_seq ?_
      refine s_cond (t := true) slA ?_
      repeat refine s_seq ?_
      refine s_region ?_
      refine w_pv rfl dC (want_none rfl) (p_val evA) ?_
      refine w_pv rfl dC (want_none rfl) (p_val evA) ?_
      refine w_pv rfl dC (want_let rfl rfl evA) (p_val evA) ?_
      refine w_pv rfl dC (want_none rfl) (p_val evA) ?_
      refine w_pv rfl dC (want_none rfl) (p_val evA) ?_
      refine w_ac rfl dC (want_let rfl rfl evA) (s_call rfl rfl Try.func27 kR kR evA ?_); refine (tlen_ok t15).mono ?_; rintro r h17 ⟨rfl, rfl⟩; rw [hl]
      refine w_pv rfl dC (want_let rfl rfl evA) (p_val evA) ?_
      refine w_pv rfl dC (want_none rfl) (p_val evA) ?_
      refine w_pv rfl dC (want_none rfl) (p_val evA) ?_
      refine w_pv rfl dC (want_let rfl rfl evA) (p_fieldAddr (k := 5) rfl evA kR) ?_
      refine w_rd rfl dC (want_let rfl rfl evA) (r_load1 rfl Try.underlying3 rfl evA hpA ceA) ?_
      refine w_pv rfl dC (want_let rfl rfl evA) (p_val evA) ?_
      refine w_pv rfl dC (want_none rfl) (p_val evA) ?_
      refine w_pv rfl dC (want_none rfl) (p_val evA) ?_
      refine w_pv rfl dC (want_let rfl rfl evA) (p_fieldAddr (k := 6) rfl evA kR) ?_
      refine w_rd rfl dC (want_let rfl rfl evA) (r_loadN (n := 9) rfl Try.underlying55 rfl evA hpA kR szA) ?_
      refine w_rd rfl dC (want_let rfl rfl evA) (r_loadN (n := 9) rfl Try.underlying55 rfl evA hpA kR szA) ?_
      refine w_ac rfl dC (want_let rfl rfl evA) (s_call rfl rfl Try.func25 kR kR evA ?_); refine (sameMsg_ok n sv2 (.slice an n.srcs.length cn) _ hc15 (hcn.le hle13) (by omega) ho14 rfl).mono ?_; rintro r h18 ⟨hle18, rfl⟩
      refine w_pv rfl dC (want_none rfl) (p_val evA) ?_
      refine w_pv rfl dC (want_none rfl) (p_val evA) ?_
      refine w_nil ?_
      exact s_ret ⟨_, res_one rfl rfl, Heap.le_trans hle13 hle18, by simp only [pval, ev, upd, binVal, intBin, Option.map_some, ↓reduceIte, reduceCtorEq, Nat.reduceEqDiff, Nat.reduceBEq, List.map_toArray, List.map_cons, List.map_nil, cond_true, cond_false, decide_true, decide_false, Bool.not_true, Bool.not_false, Bool.true_and, Bool.false_and, Bool.and_true, Bool.and_false, beq_self_eq_true, bne_self_eq_false, List.getElem_toArray, List.getElem_cons_succ, List.getElem_cons_zero] <;> rfl⟩
    · have e1 : decide (a = b) = false := decide_eq_false hab
      rw [e1] at t17
      clear e1
      have hless := less_anti hab
      repeat refine s_seq ?_
      refine s_region ?_
      refine w_pv rfl dC (want_none rfl) (p_val evA) ?_
      refine w_nil ?_
      repeat refine s_seq ?_
      refine s_cond (t := false) slA ?_
      repeat refine s_seq ?_
      refine s_skip ?_
      repeat refine s_seq ?_
      refine s_draw [(0, true), (1, true), (2, true), (3, true), (4, true), (5, true), (6, true), (7, true), (8, true), (9, true), (10, true), (11, true), (12, true), (13, true), (14, true), (15, true), (16, true), (17, true), (18, true), (19, true), (20, true), (21, true), (23, true), (24, true), (22, true), (25, true), (26, true), (27, true), (28, true)] [] [5, 17, 25] rfl kR kR ?_
      refine d_pv rfl rfl dC rfl rfl (want_none rfl) (p_val evA) ?_
      refine d_pv rfl rfl dC rfl rfl (want_none rfl) (p_val evA) ?_
      refine d_pv rfl rfl dC rfl rfl (want_let rfl rfl evA) (p_val evA) ?_
      refine d_pv rfl rfl dC rfl rfl (want_none rfl) (p_val evA) ?_
      refine d_pv rfl rfl dC rfl rfl (want_none rfl) (p_val evA) ?_
      refine d_lac rfl rfl dC (by decide) rfl (want_let rfl rfl evA) (s_call rfl rfl Try.func27 kR kR evA ?_); refine (tlen_ok t15).mono ?_; rintro r h17 ⟨rfl, rfl⟩; rw [hl]
      refine d_pv rfl rfl dC rfl rfl (want_let rfl rfl evA) (p_val evA) ?_
      refine d_pv rfl rfl dC rfl rfl (want_none rfl) (p_val evA) ?_
      refine d_pv rfl rfl dC rfl rfl (want_none rfl) (p_val evA) ?_
      refine d_pv rfl rfl dC rfl rfl (want_let rfl rfl evA) (p_fieldAddr (k := 5) rfl evA kR) ?_
      refine d_rd [_] rfl rfl dC rfl rfl (want_let rfl rfl evA) (r_load1 rfl Try.underlying3 rfl evA (restr1 hpA) ceA) ?_
      refine d_pv rfl rfl dC rfl rfl (want_let rfl rfl evA) (p_val evA) ?_
      refine d_pv rfl rfl dC rfl rfl (want_none rfl) (p_val evA) ?_
      refine d_pv rfl rfl dC rfl rfl (want_none rfl) (p_val evA) ?_
      refine d_pv rfl rfl dC rfl rfl (want_let rfl rfl evA) (p_fieldAddr (k := 6) rfl evA kR) ?_
      refine d_rd [_] rfl rfl dC rfl rfl (want_let rfl rfl evA) (r_loadN (n := 9) rfl Try.underlying55 rfl evA (restr1 hpA) kR szA) ?_
      refine d_rd [_] rfl rfl dC rfl rfl (want_let rfl rfl evA) (r_loadN (n := 9) rfl Try.underlying55 rfl evA (restr1 hpA) kR szA) ?_
      refine d_lac rfl rfl dC (by decide) rfl (want_let rfl rfl evA) (s_call rfl rfl Try.func25 kR kR evA ?_); refine (sameMsg_ok m sv2 (.slice am m.srcs.length cm) _ hc15 (hcm.le hle13) (by omega) ho14 rfl).mono ?_; rintro r h18 ⟨hle18, rfl⟩; have w6 := hle18 _ _ v6; have w7 := hle18 _ _ v7
      refine d_pv rfl rfl dC rfl rfl (want_none rfl) (p_val evA) ?_
      refine d_pv rfl rfl dC rfl rfl (want_none rfl) (p_val evA) ?_
      refine d_rd [_] rfl rfl dC rfl rfl (want_let rfl rfl evA) (r_loadN (n := 5) rfl Try.underlying57 rfl evA (restr1 hpA) kR szA) ?_
      refine d_rd [_] rfl rfl dC rfl rfl (want_let rfl rfl evA) (r_loadN (n := 5) rfl Try.underlying57 rfl evA (restr1 hpA) kR szA) ?_
      refine d_rd [_] rfl rfl dC rfl rfl (want_let rfl rfl evA) (r_loadN (n := 5) rfl Try.underlying57 rfl evA (restr1 hpA) kR szA) ?_
      refine d_rd [_] rfl rfl dC rfl rfl (want_let rfl rfl evA) (r_loadN (n := 5) rfl Try.underlying57 rfl evA (restr1 hpA) kR szA) ?_
      refine d_qac rfl rfl dC (by decide) rfl (want_let rfl rfl evA) (s_call rfl rfl Try.func28 kR kR evA ?_); refine (less_ok a b _).mono ?_; rintro r h19 ⟨hle19, rfl⟩; refine ⟨fun A _ h => A.mono _ _ hle19 h, ?_⟩
      refine d_lac rfl rfl dC (by decide) rfl (want_let rfl rfl evA) (s_call rfl rfl Try.func28 kR kR evA ?_); refine (less_ok b a _).mono ?_; rintro r h20 ⟨hle20, rfl⟩
      refine d_pr rfl rfl dC rfl rfl (want_let rfl rfl evA) (r_neq rfl evA evA gdA eqA rfl) ?_
      refine d_pv rfl rfl dC rfl rfl (want_none rfl) (p_val evA) ?_
      refine d_pv rfl rfl dC rfl rfl (want_none rfl) (p_val evA) ?_
      refine d_nil ?_
      exact s_ret ⟨_, res_one rfl rfl, Heap.le_trans (Heap.le_trans hle13 hle18) (Heap.le_trans hle19 hle20), by simp only [pval, ev, upd, binVal, intBin, Option.map_some, ↓reduceIte, reduceCtorEq, Nat.reduceEqDiff, Nat.reduceBEq, List.map_toArray, List.map_cons, List.map_nil, cond_true, cond_false, decide_true, decide_false, Bool.not_true, Bool.not_false, Bool.true_and, Bool.false_and, Bool.and_true, Bool.and_false, beq_self_eq_true, bne_self_eq_false, List.getElem_toArray, List.getElem_cons_succ, List.getElem_cons_zero]; exact congrArg Value.bool hless⟩
end Go.Proofs.Ytielfejpnkcjbaa
