/- AgeOwn. -/
import Derived.Test.YtielfejpnkcjbaaAgeOwnT
set_option linter.unusedVariables false
set_option linter.unusedSimpArgs false
namespace Go.Proofs.Ytielfejpnkcjbaa
open Sl
theorem Sl.Own.get1 {h : Heap} {e : TypeId} {n : Nat} {v : Value} {cs : List Value} (x : Own h e 1 v n cs) {i : Nat} (hi : i < n) : ∃ b c full, v = .slice (some ⟨b, 0, none⟩) n c ∧ h b = some (.cells full e (0, 0)) ∧ i < full.size ∧ full[i]? = cs[i]? ∧ ∀ u, Own (h.set b (.cells (full.setIfInBounds i u) e (0, 0))) e 1 v n (cs.set i u) := by
  cases x with
  | nil => omega
  | @at_ b n c full cs hb hl hnc hcap hc =>
    refine ⟨b, c, full, rfl, hb, by omega, ?_, fun u => .at_ (Heap.set_same _ _ _) (by simpa using hl) hnc (by simpa using hcap) ?_⟩
    · rw [← hc, List.getElem?_take_of_lt (by omega), Array.getElem?_toList]
    · rw [← hc, Array.toList_setIfInBounds, List.take_set]
theorem ageOwn_ok (m n : MsgA) (svm svn : Value) (a b : ThK) (h : Heap) (hcm : Cells h 1 svm m.srcs.length (m.srcs.map (.int .u32))) (hcn : Cells h 1 svn n.srcs.length (n.srcs.map (.int .u32))) :
    SCalls Try.prog 5 #[msgV m svm, msgV n svn, thV a, thV b] h (fun r h' => h.le h' ∧ r = .bool true) := by
  refine s_enter Try.func5 rfl (by rw [Try.ntmps5]; simp) ?_
  rw [Try.ntmps5]
  generalize hT : T0 #[msgV m svm, msgV n svn, thV a, thV b] = T
  obtain ⟨am, cm, rfl⟩ := hcm.form
  obtain ⟨an, cn, rfl⟩ := hcn.form
  have h0 : T 0 = .agg #[.int .i64 m.kind, .int .u32 m.frm, .int .u32 m.to, .int .u32 m.src, .int .u32 m.grp, .int .i64 m.rank, .int .i64 m.cost, .bool m.only, .slice am m.srcs.length cm] := by rw [← hT]; rfl
  have h1 : T 1 = .agg #[.int .i64 n.kind, .int .u32 n.frm, .int .u32 n.to, .int .u32 n.src, .int .u32 n.grp, .int .i64 n.rank, .int .i64 n.cost, .bool n.only, .slice an n.srcs.length cn] := by rw [← hT]; rfl
  have hT2 : T 2 = .agg #[.int .i64 a.1.1, .int .i64 a.1.2.1, .int .u32 a.1.2.2, .int .u32 a.2.1, .int .u32 a.2.2] := by rw [← hT]; rfl
  have hT3 : T 3 = .agg #[.int .i64 b.1.1, .int .i64 b.1.2.1, .int .u32 b.1.2.2, .int .u32 b.2.1, .int .u32 b.2.2] := by rw [← hT]; rfl
  clear hT
  repeat refine s_seq ?_
  refine s_region ?_
  refine w_al rfl dC (want_none rfl) (a_boxN rfl evA) ?_
  intro b4 hb4
  refine w_al rfl dC (want_none rfl) (a_boxN rfl evA) ?_
  intro b5 hb5
  have hne5_4 : b5 ≠ b4 := by rintro rfl; first | (simp [Heap.set] at hb5; done) | (simp [Heap.set] at hb5; split at hb5 <;> simp at hb5; done) | (simp [Heap.set] at hb5; (repeat' (split at hb5)) <;> simp_all)
  have hne4_5 := hne5_4.symm
  refine w_al rfl dC (want_none rfl) (a_boxN rfl evA) ?_
  intro b6 hb6
  have hne6_4 : b6 ≠ b4 := by rintro rfl; first | (simp [Heap.set] at hb6; done) | (simp [Heap.set] at hb6; split at hb6 <;> simp at hb6; done) | (simp [Heap.set] at hb6; (repeat' (split at hb6)) <;> simp_all)
  have hne4_6 := hne6_4.symm
  have hne6_5 : b6 ≠ b5 := by rintro rfl; first | (simp [Heap.set] at hb6; done) | (simp [Heap.set] at hb6; split at hb6 <;> simp at hb6; done) | (simp [Heap.set] at hb6; (repeat' (split at hb6)) <;> simp_all)
  have hne5_6 := hne6_5.symm
  refine w_al rfl dC (want_none rfl) (a_boxN rfl evA) ?_
  intro b7 hb7
  have hne7_4 : b7 ≠ b4 := by rintro rfl; first | (simp [Heap.set] at hb7; done) | (simp [Heap.set] at hb7; split at hb7 <;> simp at hb7; done) | (simp [Heap.set] at hb7; (repeat' (split at hb7)) <;> simp_all)
  have hne4_7 := hne7_4.symm
  have hne7_5 : b7 ≠ b5 := by rintro rfl; first | (simp [Heap.set] at hb7; done) | (simp [Heap.set] at hb7; split at hb7 <;> simp at hb7; done) | (simp [Heap.set] at hb7; (repeat' (split at hb7)) <;> simp_all)
  have hne5_7 := hne7_5.symm
  have hne7_6 : b7 ≠ b6 := by rintro rfl; first | (simp [Heap.set] at hb7; done) | (simp [Heap.set] at hb7; split at hb7 <;> simp at hb7; done) | (simp [Heap.set] at hb7; (repeat' (split at hb7)) <;> simp_all)
  have hne6_7 := hne7_6.symm
  refine w_pv rfl dC (want_none rfl) (p_val evA) ?_
  refine w_nil ?_
  refine genH fun hx hh => ?_
  have v4 : hx b4 = some (.cells #[.int .i64 m.kind, .int .u32 m.frm, .int .u32 m.to, .int .u32 m.src, .int .u32 m.grp, .int .i64 m.rank, .int .i64 m.cost, .bool m.only, .slice am m.srcs.length cm] 55 (0, 0)) := by rw [hh, Heap.set_other _ _ hne4_7, Heap.set_other _ _ hne4_6, Heap.set_other _ _ hne4_5]; exact Heap.set_same _ _ _
  have v5 : hx b5 = some (.cells #[.int .i64 n.kind, .int .u32 n.frm, .int .u32 n.to, .int .u32 n.src, .int .u32 n.grp, .int .i64 n.rank, .int .i64 n.cost, .bool n.only, .slice an n.srcs.length cn] 55 (0, 0)) := by rw [hh, Heap.set_other _ _ hne5_7, Heap.set_other _ _ hne5_6]; exact Heap.set_same _ _ _
  have v6 : hx b6 = some (.cells #[.int .i64 a.1.1, .int .i64 a.1.2.1, .int .u32 a.1.2.2, .int .u32 a.2.1, .int .u32 a.2.2] 57 (0, 0)) := by rw [hh, Heap.set_other _ _ hne6_7]; exact Heap.set_same _ _ _
  have v7 : hx b7 = some (.cells #[.int .i64 b.1.1, .int .i64 b.1.2.1, .int .u32 b.1.2.2, .int .u32 b.2.1, .int .u32 b.2.2] 57 (0, 0)) := by rw [hh]; exact Heap.set_same _ _ _
  have hle : h.le hx := by rw [hh]; exact Heap.le_trans (Heap.le_trans (Heap.le_set _ hb4) (Heap.le_set _ hb5)) (Heap.le_trans (Heap.le_set _ hb6) (Heap.le_set _ hb7))
  clear hh
  repeat refine s_seq ?_
  refine s_region ?_
  refine w_ac rfl dC (want_none rfl) (s_call rfl rfl Try.func20 kR kR evA ?_); refine (first15_ok _).mono ?_; rintro r h2 ⟨hle2, rfl⟩
  refine w_pv rfl dC (want_none rfl) (p_val evA) ?_
  refine w_nil ?_
  repeat refine s_seq ?_
  refine s_region ?_
  refine w_pv rfl dC (want_none rfl) (p_val evA) ?_
  refine w_pv rfl dC (want_none rfl) (p_val evA) ?_
  refine w_nil ?_
  repeat refine s_seq ?_
  refine s_cond (t := false) slA ?_
  repeat refine s_seq ?_
  refine s_skip ?_
  replace v4 := hle2 _ _ v4
  replace v5 := hle2 _ _ v5
  replace v6 := hle2 _ _ v6
  replace v7 := hle2 _ _ v7
  replace hle := Heap.le_trans hle hle2
  clear hle2 hb4 hb5 hb6 hb7
  by_cases hm10 : ((m.srcs.length : Nat) : Int) > 10
  · have e1 : decide (((m.srcs.length : Nat) : Int) > 10) = true := decide_eq_true hm10
    clear hm10
    repeat refine s_seq ?_
    refine s_region ?_
    refine w_pv rfl dC (want_none rfl) (p_fieldAddr (k := 8) rfl evA kR) ?_
    refine w_rd rfl dC (want_none rfl) (r_load1 rfl Try.underlying53 rfl evA hpA ceA) ?_
    refine w_rd rfl dC (want_none rfl) (r_len_slice rfl Try.underlying53 evA) ?_
    refine w_pv rfl dC (want_none rfl) (p_val evA) ?_
    refine w_pv rfl dC (want_none rfl) (p_val evA) ?_
    refine w_skp rfl dC (want_not rfl rfl evA rfl) ?_
    refine w_skp rfl dC (want_not rfl rfl evA rfl) ?_
    refine w_skp rfl dC (want_not rfl rfl evA rfl) ?_
    refine w_skp rfl dC (want_not rfl rfl evA rfl) ?_
    refine w_pv rfl dC (want_none rfl) (p_val evA) ?_
    refine w_nil ?_
    repeat refine s_seq ?_
    refine s_cond (t := true) slA ?_
    repeat refine s_seq ?_
    refine s_region ?_
    refine w_pv rfl dC (want_none rfl) (p_val evA) ?_
    refine w_pv rfl dC (want_none rfl) (p_val evA) ?_
    refine w_nil ?_
    exact s_ret ⟨_, res_one rfl rfl, hle, slA⟩
  have e1 : decide (((m.srcs.length : Nat) : Int) > 10) = false := decide_eq_false hm10
  by_cases hn10 : ((n.srcs.length : Nat) : Int) > 10
  · have e2 : decide (((n.srcs.length : Nat) : Int) > 10) = true := decide_eq_true hn10
    clear hm10 hn10
    repeat refine s_seq ?_
    refine s_region ?_
    refine w_pv rfl dC (want_none rfl) (p_fieldAddr (k := 8) rfl evA kR) ?_
    refine w_rd rfl dC (want_none rfl) (r_load1 rfl Try.underlying53 rfl evA hpA ceA) ?_
    refine w_rd rfl dC (want_none rfl) (r_len_slice rfl Try.underlying53 evA) ?_
    refine w_pv rfl dC (want_none rfl) (p_val evA) ?_
    refine w_pv rfl dC (want_none rfl) (p_val evA) ?_
    refine w_pv rfl dC (want_let rfl rfl evA) (p_fieldAddr (k := 8) rfl evA kR) ?_
    refine w_rd rfl dC (want_let rfl rfl evA) (r_load1 rfl Try.underlying53 rfl evA hpA ceA) ?_
    refine w_rd rfl dC (want_let rfl rfl evA) (r_len_slice rfl Try.underlying53 evA) ?_
    refine w_pv rfl dC (want_let rfl rfl evA) (p_val evA) ?_
    refine w_pv rfl dC (want_none rfl) (p_val evA) ?_
    refine w_nil ?_
    repeat refine s_seq ?_
    refine s_cond (t := true) slA ?_
    repeat refine s_seq ?_
    refine s_region ?_
    refine w_pv rfl dC (want_none rfl) (p_val evA) ?_
    refine w_pv rfl dC (want_none rfl) (p_val evA) ?_
    refine w_nil ?_
    exact s_ret ⟨_, res_one rfl rfl, hle, slA⟩
  have e2 : decide (((n.srcs.length : Nat) : Int) > 10) = false := decide_eq_false hn10
  have hm : m.srcs.length ≤ 10 := by omega
  have hn : n.srcs.length ≤ 10 := by omega
  clear hm10 hn10
  repeat refine s_seq ?_
  refine s_region ?_
  refine w_pv rfl dC (want_none rfl) (p_fieldAddr (k := 8) rfl evA kR) ?_
  refine w_rd rfl dC (want_none rfl) (r_load1 rfl Try.underlying53 rfl evA hpA ceA) ?_
  refine w_rd rfl dC (want_none rfl) (r_len_slice rfl Try.underlying53 evA) ?_
  refine w_pv rfl dC (want_none rfl) (p_val evA) ?_
  refine w_pv rfl dC (want_none rfl) (p_val evA) ?_
  refine w_pv rfl dC (want_let rfl rfl evA) (p_fieldAddr (k := 8) rfl evA kR) ?_
  refine w_rd rfl dC (want_let rfl rfl evA) (r_load1 rfl Try.underlying53 rfl evA hpA ceA) ?_
  refine w_rd rfl dC (want_let rfl rfl evA) (r_len_slice rfl Try.underlying53 evA) ?_
  refine w_pv rfl dC (want_let rfl rfl evA) (p_val evA) ?_
  refine w_pv rfl dC (want_none rfl) (p_val evA) ?_
  refine w_nil ?_
  repeat refine s_seq ?_
  refine s_cond (t := false) slA ?_
  repeat refine s_seq ?_
  refine s_skip ?_
  repeat refine s_seq ?_
  refine s_region ?_
  refine w_al rfl dC (want_none rfl) (a_allocZ (z := .agg #[.map none]) (zs := #[.map none]) rfl kR rfl) ?_
  intro b10 hb10
  refine w_nil ?_
  have t := TableAt.new h2 b10 60
  have hle3 := Heap.le_set (.cells #[.map none] 60 (0, 0)) hb10
  change SCode _ _ _ _ _ (h2.set b10 (.cells #[.map none] 60 (0, 0)))
  generalize h2.set b10 (.cells #[.map none] 60 (0, 0)) = h3 at t hle3 ⊢
  have hb10n : h b10 = none := by
    cases e : h b10 with
    | none => rfl
    | some o => rw [hle b10 o e] at hb10; cases hb10
  have n4 : b4 ≠ b10 := fun e => by rw [e, hb10] at v4; cases v4
  have n5 : b5 ≠ b10 := fun e => by rw [e, hb10] at v5; cases v5
  have n6 : b6 ≠ b10 := fun e => by rw [e, hb10] at v6; cases v6
  have n7 : b7 ≠ b10 := fun e => by rw [e, hb10] at v7; cases v7
  replace v4 := hle3 _ _ v4
  replace v5 := hle3 _ _ v5
  replace v6 := hle3 _ _ v6
  replace v7 := hle3 _ _ v7
  replace hle := Heap.le_trans hle hle3
  clear hle3 hb10 e1 e2
  have hone : (Value.slice am m.srcs.length cm).oneCell' = true := rfl
  repeat refine s_seq ?_
  refine s_region ?_
  refine w_rd rfl dC (want_none rfl) (r_loadN (n := 9) rfl Try.underlying55 rfl evA hpA kR szA) ?_
  refine w_al rfl dC (want_none rfl) (a_allocZ (z := .agg #[.int .i64 0, .int .u32 0, .int .u32 0, .int .u32 0, .int .u32 0, .int .i64 0, .int .i64 0, .bool false, .slice none 0 0]) (zs := #[.int .i64 0, .int .u32 0, .int .u32 0, .int .u32 0, .int .u32 0, .int .i64 0, .int .i64 0, .bool false, .slice none 0 0]) rfl kR rfl) ?_
  intro b11 hb11
  refine w_st rfl (want_none rfl) (s_storeN (n := 9) rfl evA evA ocA kR szA kR hpA szA ?_)
  refine w_nil ?_
  rw [set_set]
  refine genH fun h4 hh => ?_
  have v11 : h4 b11 = some (.cells #[.int .i64 m.kind, .int .u32 m.frm, .int .u32 m.to, .int .u32 m.src, .int .u32 m.grp, .int .i64 m.rank, .int .i64 m.cost, .bool m.only, .slice am m.srcs.length cm] 55 (0, 0)) := by rw [hh]; exact Heap.set_same _ _ _
  have hle4 : h3.le h4 := by rw [hh]; exact Heap.le_set _ hb11
  clear hh
  have n11_4 : b4 ≠ b11 := fun e => by rw [e, hb11] at v4; cases v4
  have n11_5 : b5 ≠ b11 := fun e => by rw [e, hb11] at v5; cases v5
  have n11_6 : b6 ≠ b11 := fun e => by rw [e, hb11] at v6; cases v6
  have n11_7 : b7 ≠ b11 := fun e => by rw [e, hb11] at v7; cases v7
  replace v4 := hle4 _ _ v4
  replace v5 := hle4 _ _ v5
  replace v6 := hle4 _ _ v6
  replace v7 := hle4 _ _ v7
  have hb11n : h b11 = none := by
    cases e : h b11 with
    | none => rfl
    | some o => rw [hle b11 o e] at hb11; cases hb11
  have n11 : b11 ≠ b10 := fun e => t.dom b10 rfl (by rw [← e]; exact hb11)
  replace hle := Heap.le_trans hle hle4
  replace t := t.le hle4
  clear hle4 hb11
  repeat refine s_seq ?_
  refine s_region ?_
  refine w_pv rfl dC (want_none rfl) (p_fieldAddr (k := 8) rfl evA kR) ?_
  refine w_rd rfl dC (want_none rfl) (r_load1 rfl Try.underlying53 rfl evA hpA ceA) ?_
  refine w_ac rfl dC (want_none rfl) (s_call rfl rfl Try.func21 kR kR evA ?_); refine (addrs_ok m.srcs (hcm.le hle) (by omega)).mono ?_; rintro vx h5 ⟨hle5, hown5, hnew5⟩; have hone5 := hown5.oneC; have v11' := hle5 _ _ v11
  refine w_pv rfl dC (want_none rfl) (p_fieldAddr (k := 8) rfl evA kR) ?_
  refine w_st rfl (want_none rfl) (s_store1 rfl evA evA ocA kR kR hpA szA ?_)
  refine w_nil ?_
  refine genH fun h6 hh => ?_
  have w11 : h6 b11 = some (.cells #[.int .i64 m.kind, .int .u32 m.frm, .int .u32 m.to, .int .u32 m.src, .int .u32 m.grp, .int .i64 m.rank, .int .i64 m.cost, .bool m.only, vx] 55 (0, 0)) := by rw [hh]; exact Heap.set_same _ _ _
  have hk6 : ∀ q, q ≠ b11 → h6 q = h5 q := fun q hq => by rw [hh]; exact Heap.set_other _ _ hq
  clear hh
  have hx11 : ∀ q, blockOf vx = some q → q ≠ b4 ∧ q ≠ b5 ∧ q ≠ b6 ∧ q ≠ b7 := fun q e => ⟨fun e1 => (by have := hnew5 q e; rw [e1, v4] at this; cases this), fun e1 => (by have := hnew5 q e; rw [e1, v5] at this; cases this), fun e1 => (by have := hnew5 q e; rw [e1, v6] at this; cases this), fun e1 => (by have := hnew5 q e; rw [e1, v7] at this; cases this)⟩
  replace v4 : h6 b4 = _ := (hk6 _ n11_4).trans (hle5 _ _ v4)
  replace v5 : h6 b5 = _ := (hk6 _ n11_5).trans (hle5 _ _ v5)
  replace v6 : h6 b6 = _ := (hk6 _ n11_6).trans (hle5 _ _ v6)
  replace v7 : h6 b7 = _ := (hk6 _ n11_7).trans (hle5 _ _ v7)
  have hxb : ∀ q, blockOf vx = some q → q ≠ b11 ∧ q ≠ b10 ∧ h4 q = none := fun q e => ⟨fun e1 => (by have := hnew5 q e; rw [e1, v11] at this; cases this), fun e1 => t.dom b10 rfl (by rw [← e1]; exact hnew5 q e), hnew5 q e⟩
  have hown6 : Own h6 23 1 vx m.srcs.length (m.srcs.map (.int .u32)) := hown5.only fun q o hq e => by rw [hk6 q (hxb q hq).1]; exact e
  have t6 : TableAt h6 (fun q => q = b10) b10 [] := by
    obtain ⟨mv, ty, hp, hD, hmap⟩ := (t.le hle5).out
    rcases hmap with ⟨e1, _⟩ | ⟨mb, rs, cl, e1, hDm, him, _⟩
    · exact ⟨⟨mv, ty, (hk6 _ (Ne.symm n11)).trans hp, rfl, .inl ⟨e1, rfl⟩⟩, fun q hq => by rw [hq, hk6 _ (Ne.symm n11), hp]; simp⟩
    · have := him.1
      rw [show mb = b10 from hDm, hp] at this; cases this
  have hle6 : h.le h6 := fun q o e => by rw [hk6 q (fun e1 => by rw [e1, hb11n] at e; cases e)]; exact hle5 q o (hle q o e)
  have hxn : ∀ q, blockOf vx = some q → h q = none := fun q e => by
    have h8 := hnew5 q e
    cases e1 : h q with
    | none => rfl
    | some o => rw [hle q o e1] at h8; cases h8
  clear v11 v11' hle5 hnew5 hown5 t hle hk6
  have hag : (Value.agg #[.int .i64 a.1.1, .int .i64 a.1.2.1, .int .u32 a.1.2.2, .int .u32 a.2.1, .int .u32 a.2.2]) = thV a := rfl
  have hmg : (Value.agg #[.int .i64 m.kind, .int .u32 m.frm, .int .u32 m.to, .int .u32 m.src, .int .u32 m.grp, .int .i64 m.rank, .int .i64 m.cost, .bool m.only, vx]) = msgV m vx := rfl
  repeat refine s_seq ?_
  refine s_region ?_
  refine w_rd rfl dC (want_none rfl) (r_loadN (n := 5) rfl Try.underlying57 rfl evA hpA kR szA) ?_
  refine w_rd rfl dC (want_none rfl) (r_loadN (n := 9) rfl Try.underlying55 rfl evA hpA kR szA) ?_
  refine w_ac rfl dC (want_none rfl) (s_call rfl rfl Try.func22 kR kR evA ?_); refine (hear_ok a m vx t6 (by decide) hown6.cells (by omega) hone5 (fun _ q hq => (hxb q hq).2.1)).mono ?_; rintro r h7 ⟨rfl, D7, chg7, t7⟩
  refine w_pv rfl dC (want_none rfl) (p_val evA) ?_
  refine w_nil ?_
  repeat refine s_seq ?_
  refine s_cond (t := false) slA ?_
  repeat refine s_seq ?_
  refine s_skip ?_
  replace t7 : TableAt h7 D7 b10 [⟨a, 0, m⟩] := t7
  have kept : ∀ q o, q ≠ b10 → h6 q = some o → h7 q = some o ∧ ¬ D7 q := fun q o hq e => ⟨chg7.keep q o hq e, fun hd => by
    rcases chg7.ext q hd with h8 | h8
    · exact hq h8
    · rw [h8] at e; cases e⟩
  have hown7 : Own h7 23 1 vx m.srcs.length (m.srcs.map (.int .u32)) := hown6.only fun q o hq e => (kept q o (hxb q hq).2.1 e).1
  have hxD : ∀ q, blockOf vx = some q → ¬ D7 q := fun q hq => by obtain ⟨o, ho⟩ := hown6.blk hq; exact (kept q o (hxb q hq).2.1 ho).2
  have d4 := (kept _ _ n4 v4).2
  have d5 := (kept _ _ n5 v5).2
  have d6 := (kept _ _ n6 v6).2
  have d7 := (kept _ _ n7 v7).2
  replace v4 := (kept _ _ n4 v4).1
  replace v5 := (kept _ _ n5 v5).1
  replace v6 := (kept _ _ n6 v6).1
  replace v7 := (kept _ _ n7 v7).1
  replace w11 := (kept _ _ n11 w11).1
  have hle7 : h.le h7 := fun q o e => (kept q o (fun e1 => by rw [e1, hb10n] at e; cases e) (hle6 q o e)).1
  have hDn : ∀ q o, h q = some o → ¬ D7 q := fun q o e => (kept q o (fun e1 => by rw [e1, hb10n] at e; cases e) (hle6 q o e)).2
  clear hown6 t6 hle6
  repeat refine s_seq ?_
  refine s_region ?_
  refine w_pv rfl dC (want_none rfl) (p_val evA) ?_
  refine w_nil ?_
  refine s_join (fun T h' => (∀ q o, some q ≠ blockOf vx → h7 q = some o → h' q = some o) ∧ (∀ q, h7 q ≠ none → h' q ≠ none) ∧ T 4 = .pointer (some ⟨b4, 0, none⟩) ∧ T 5 = .pointer (some ⟨b5, 0, none⟩) ∧ T 6 = .pointer (some ⟨b6, 0, none⟩) ∧ T 7 = .pointer (some ⟨b7, 0, none⟩) ∧ T 9 = .bool true ∧ T 10 = .pointer (some ⟨b10, 0, none⟩)) ?_ ?_
  · obtain ⟨ax, cx, rfl⟩ := hown7.cells.form
    have hu : ∀ y ∈ m.srcs.map (Value.int .u32), ∃ z, y = .int .u32 z := fun y hy => by obtain ⟨z, _, rfl⟩ := List.mem_map.1 hy; exact ⟨z, rfl⟩
    refine (s_block (s_loop (fun k T h' => ∃ (i : Nat) (ys : List Value), k = m.srcs.length - i ∧ i ≤ m.srcs.length ∧ Own h' 23 1 (.slice ax m.srcs.length cx) m.srcs.length ys ∧ (∀ y ∈ ys, ∃ z, y = .int .u32 z) ∧ (∀ q o, some q ≠ blockOf (.slice ax m.srcs.length cx) → h7 q = some o → h' q = some o) ∧ (∀ q, h7 q ≠ none → h' q ≠ none) ∧ T 4 = .pointer (some ⟨b4, 0, none⟩) ∧ T 5 = .pointer (some ⟨b5, 0, none⟩) ∧ T 6 = .pointer (some ⟨b6, 0, none⟩) ∧ T 7 = .pointer (some ⟨b7, 0, none⟩) ∧ T 9 = .bool true ∧ T 10 = .pointer (some ⟨b10, 0, none⟩) ∧ T 11 = .pointer (some ⟨b11, 0, none⟩) ∧ T 12 = .int .i64 (i : Nat)) (n0 := m.srcs.length)
      ⟨0, _, by omega, by omega, hown7, hu, fun q o _ e => e, fun q e => e, slA, slA, slA, slA, slA, slA, slA, by simp only [pval, ev, upd, binVal, intBin, Option.map_some, ↓reduceIte, reduceCtorEq, Nat.reduceEqDiff, Nat.reduceBEq, List.map_toArray, List.map_cons, List.map_nil, cond_true, cond_false, decide_true, decide_false, Bool.not_true, Bool.not_false, Bool.true_and, Bool.false_and, Bool.and_true, Bool.and_false, beq_self_eq_true, bne_self_eq_false, List.getElem_toArray, List.getElem_cons_succ, List.getElem_cons_zero, *] <;> rfl⟩ ?_))
    clear h0 h1 hT2 hT3 T
    rintro k T h' ⟨i, ys, rfl, hi, hown, hys, hk, hdm, t4, t5, t6, t7', t9, t10, t11, t12⟩
    have w11' := hk b11 _ (fun e => (hxb b11 e.symm).1 rfl) w11
    by_cases hlt : i < m.srcs.length
    · have e1 : decide ((i : Int) < (m.srcs.length : Int)) = true := decide_eq_true (by omega)
      have hw3 : IntKind.i64.wrap ((i : Int) + 1) = ((i + 1 : Nat) : Int) := wrap64_nat _ _ (by omega) (by omega)
      obtain ⟨bx, cx2, full, hvx, hbx, hsz, hgi, hset⟩ := hown.get1 hlt
      cases hvx
      have hyl : i < ys.length := by have := hown.cells.len; omega
      obtain ⟨z, hz⟩ := hys ys[i] (List.getElem_mem hyl)
      have g1 : full[0 + i * 1]? = some (.int .u32 z) := by rw [Nat.zero_add, Nat.mul_one, hgi, List.getElem?_eq_getElem hyl, hz]
      have hii : (0 : Int) ≤ (i : Int) := by omega
      have hi1 : (i : Int) < (m.srcs.length : Int) := by omega
      have hitn : Int.toNat (i : Int) = i := by omega
      have hsz' : 0 + i * 1 < full.size := by omega
      clear hgi hz
      repeat refine s_seq ?_
      refine s_region ?_
      refine w_pv rfl dC (want_none rfl) (p_val evA) ?_
      refine w_pv rfl dC (want_none rfl) (p_fieldAddr (k := 8) rfl evA kR) ?_
      refine w_rd rfl dC (want_none rfl) (r_load1 rfl Try.underlying53 rfl evA hpA ceA) ?_
      refine w_rd rfl dC (want_none rfl) (r_len_slice rfl Try.underlying53 evA) ?_
      refine w_pv rfl dC (want_none rfl) (p_val evA) ?_
      refine w_nil ?_
      repeat refine s_seq ?_
      refine s_cond (t := true) slA ?_
      repeat refine s_seq ?_
      refine s_skip ?_
      repeat refine s_seq ?_
      refine s_block ?_
      repeat refine s_seq ?_
      refine s_region ?_
      refine w_pv rfl dC (want_none rfl) (p_fieldAddr (k := 8) rfl evA kR) ?_
      refine w_rd rfl dC (want_none rfl) (r_load1 rfl Try.underlying53 rfl evA hpA ceA) ?_
      refine w_pv rfl dC (want_none rfl) (p_val evA) ?_
      refine w_pv rfl dC (want_none rfl) (p_indexAddr (sz := 1) rfl Try.underlying53 kR kR evA evA hii hi1) ?_
      refine w_rd rfl dC (want_none rfl) (r_load1 rfl Try.underlying23 rfl evA hpA ceA) ?_
      refine w_pv rfl dC (want_none rfl) (p_val evA) ?_
      refine w_pv rfl dC (want_none rfl) (p_indexAddr (sz := 1) rfl Try.underlying53 kR kR evA evA hii hi1) ?_
      refine w_st rfl (want_none rfl) (s_store1 rfl evA evA ocA kR kR hpA szA ?_)
      refine w_nil ?_
      refine genH fun h8 hh => ?_
      have hix : 0 + i * 1 = i := by omega
      rw [hix] at hh
      have hown8 := hset (.int .u32 (IntKind.u32.wrap (z + 1)))
      rw [← hh] at hown8
      have hk8 : ∀ q o, some q ≠ blockOf (.slice (some ⟨bx, 0, none⟩) m.srcs.length cx) → h7 q = some o → h8 q = some o := fun q o hq e => by
        rw [hh, Heap.set_other _ _ (fun e1 => hq (by rw [e1]; rfl))]; exact hk q o hq e
      have hdm8 : ∀ q, h7 q ≠ none → h8 q ≠ none := fun q e => by
        by_cases e1 : q = bx
        · rw [e1, hh, Heap.set_same]; simp
        · rw [hh, Heap.set_other _ _ e1]; exact hdm q e
      have hys8 : ∀ y ∈ ys.set i (.int .u32 (IntKind.u32.wrap (z + 1))), ∃ z, y = .int .u32 z := fun y hy => by
        rcases List.mem_or_eq_of_mem_set hy with h9 | h9
        · exact hys y h9
        · exact ⟨_, h9⟩
      clear hh hset hix
      repeat refine s_seq ?_
      refine s_region ?_
      refine w_pv rfl dC (want_none rfl) (p_val evA) ?_
      refine w_pv rfl dC (want_none rfl) (p_val evA) ?_
      refine w_pv rfl dC (want_none rfl) (p_val evA) ?_
      refine w_nil ?_
      exact ⟨m.srcs.length - (i + 1), by omega, i + 1, _, rfl, by omega, hown8, hys8, hk8, hdm8, slA, slA, slA, slA, slA, slA, slA, slA⟩
    · have e1 : decide ((i : Int) < (m.srcs.length : Int)) = false := decide_eq_false (by omega)
      repeat refine s_seq ?_
      refine s_region ?_
      refine w_pv rfl dC (want_none rfl) (p_val evA) ?_
      refine w_pv rfl dC (want_none rfl) (p_fieldAddr (k := 8) rfl evA kR) ?_
      refine w_rd rfl dC (want_none rfl) (r_load1 rfl Try.underlying53 rfl evA hpA ceA) ?_
      refine w_rd rfl dC (want_none rfl) (r_len_slice rfl Try.underlying53 evA) ?_
      refine w_pv rfl dC (want_none rfl) (p_val evA) ?_
      refine w_nil ?_
      repeat refine s_seq ?_
      refine s_cond (t := false) slA ?_
      repeat refine s_seq ?_
      refine s_exit ?_
      exact ⟨hk, hdm, slA, slA, slA, slA, slA, slA⟩
  · clear h0 h1 hT2 hT3 T
    rintro T h8 ⟨hk, hdm, t4, t5, t6, t7', t9, t10⟩
    have nx : ∀ q, (∀ r, blockOf vx = some r → r ≠ q) → some q ≠ blockOf vx := fun q hq e => hq q e.symm rfl
    replace v4 := hk _ _ (nx b4 fun r hr => (hx11 r hr).1) v4
    replace v5 := hk _ _ (nx b5 fun r hr => (hx11 r hr).2.1) v5
    replace v6 := hk _ _ (nx b6 fun r hr => (hx11 r hr).2.2.1) v6
    replace v7 := hk _ _ (nx b7 fun r hr => (hx11 r hr).2.2.2) v7
    have t8 : TableAt h8 D7 b10 [⟨a, 0, m⟩] := by
      obtain ⟨mv, ty, hp, hDp, hmap⟩ := t7.out
      have hkD : ∀ q o, D7 q → h7 q = some o → h8 q = some o := fun q o hd e => hk q o (fun e1 => hxD q e1.symm hd) e
      exact ⟨⟨mv, ty, hkD _ _ hDp hp, hDp, hmap.imp id fun ⟨mb, rs, cl, e1, e2, e3, e4, e5⟩ => ⟨mb, rs, cl, e1, e2, ⟨hkD _ _ e2 e3.1, e3.2⟩, e4, fun r hr => (e5 r hr).only fun q o hd e _ => hkD q o hd e⟩⟩, fun q hd => hdm q (t7.dom q hd)⟩
    have hle8 : h.le h8 := fun q o e => hk q o (nx q fun r hr e1 => by have := hxn r hr; rw [e1, e] at this; cases this) (hle7 q o e)
    clear hk hdm hown7 t7 hle7 w11 kept
    have hmg : (Value.agg #[.int .i64 m.kind, .int .u32 m.frm, .int .u32 m.to, .int .u32 m.src, .int .u32 m.grp, .int .i64 m.rank, .int .i64 m.cost, .bool m.only, .slice am m.srcs.length cm]) = msgV m (.slice am m.srcs.length cm) := rfl
    repeat refine s_seq ?_
    refine s_region ?_
    refine w_ac rfl dC (want_none rfl) (s_call rfl rfl Try.func23 kR kR evA ?_); refine (tick_ok t8 (by simp)).mono ?_; rintro r h9 ⟨rfl, chg9, t9'⟩; replace t9' : TableAt h9 D7 b10 [⟨a, 1, m⟩] := t9'
    refine w_nil ?_
    replace v4 := chg9.keep _ _ d4 v4
    replace v5 := chg9.keep _ _ d5 v5
    replace v6 := chg9.keep _ _ d6 v6
    replace v7 := chg9.keep _ _ d7 v7
    have hle9 : h.le h9 := fun q o e => chg9.keep q o (hDn q o e) (hle8 q o e)
    clear chg9 hle8 t8
    repeat refine s_seq ?_
    refine s_region ?_
    refine w_rd rfl dC (want_none rfl) (r_loadN (n := 5) rfl Try.underlying57 rfl evA hpA kR szA) ?_
    refine w_ac rfl dC (want_none rfl) (s_call rfl rfl Try.func24 kR kR evA ?_); refine (tget_ok a t9' ⟨a, 1, m⟩ (by simp) rfl (by intro y hy _; simpa using hy)).mono ?_; rintro r h10 ⟨hle10, sv, rfl, hc10, hn10, ho10⟩
    refine w_pv rfl dC (want_none rfl) (p_val evA) ?_
    refine w_pv rfl dC (want_none rfl) (p_val evA) ?_
    refine w_pv rfl dC (want_none rfl) (p_val evA) ?_
    refine w_al rfl dC (want_none rfl) (a_allocZ (z := .agg #[.int .i64 0, .int .i64 0, .int .u32 0, .int .u32 0, .int .u32 0, .int .i64 0, .int .i64 0, .int .u32 0, .int .u32 0, .int .u32 0, .int .u32 0, .int .i64 0, .int .i64 0, .bool false, .slice none 0 0]) (zs := #[.int .i64 0, .int .i64 0, .int .u32 0, .int .u32 0, .int .u32 0, .int .i64 0, .int .i64 0, .int .u32 0, .int .u32 0, .int .u32 0, .int .u32 0, .int .i64 0, .int .i64 0, .bool false, .slice none 0 0]) rfl kR rfl) ?_
    intro b13 hb13
    refine w_st rfl (want_none rfl) (s_storeN (n := 15) rfl evA evA ocA kR szA kR hpA szA ?_)
    refine w_pv rfl dC (want_none rfl) (p_val evA) ?_
    refine w_nil ?_
    rw [set_set]
    refine genH fun h11 hh => ?_
    have v13 : h11 b13 = some (.cells #[.int .i64 a.1.1, .int .i64 a.1.2.1, .int .u32 a.1.2.2, .int .u32 a.2.1, .int .u32 a.2.2, .int .i64 1, .int .i64 m.kind, .int .u32 m.frm, .int .u32 m.to, .int .u32 m.src, .int .u32 m.grp, .int .i64 m.rank, .int .i64 m.cost, .bool m.only, sv] 64 (0, 0)) := by rw [hh]; exact Heap.set_same _ _ _
    have hle11 : h9.le h11 := by rw [hh]; exact Heap.le_trans hle10 (Heap.le_set _ hb13)
    have hc11 : Cells h11 1 sv m.srcs.length (m.srcs.map (.int .u32)) := by rw [hh]; exact hc10.le (Heap.le_set _ hb13)
    clear hh hc10 hle10 hb13
    replace v4 := hle11 _ _ v4
    replace v5 := hle11 _ _ v5
    replace v6 := hle11 _ _ v6
    replace v7 := hle11 _ _ v7
    have t11' := t9'.le hle11
    replace hle9 := Heap.le_trans hle9 hle11
    clear t9' hle11
    have hsn : n.srcs.length ≠ 0 → ∀ q, blockOf (.slice an n.srcs.length cn) = some q → ¬ D7 q := fun hl q e => by
      obtain ⟨b1, o1, k1, f1, t1, z1, q1, hb1, _⟩ := hcn.get (i := 0) (by omega)
      cases q1
      cases e
      exact hDn _ _ hb1
    have hng : (Value.agg #[.int .i64 n.kind, .int .u32 n.frm, .int .u32 n.to, .int .u32 n.src, .int .u32 n.grp, .int .i64 n.rank, .int .i64 n.cost, .bool n.only, .slice an n.srcs.length cn]) = msgV n (.slice an n.srcs.length cn) := rfl
    have hbg : (Value.agg #[.int .i64 b.1.1, .int .i64 b.1.2.1, .int .u32 b.1.2.2, .int .u32 b.2.1, .int .u32 b.2.2]) = thV b := rfl
    repeat refine s_seq ?_
    refine s_region ?_
    refine w_pv rfl dC (want_none rfl) (p_val evA) ?_
    refine w_pv rfl dC (want_none rfl) (p_val evA) ?_
    refine w_pv rfl dC (want_none rfl) (p_val evA) ?_
    refine w_pv rfl dC (want_let rfl rfl evA) (p_fieldAddr (k := 5) rfl evA kR) ?_
    refine w_rd rfl dC (want_let rfl rfl evA) (r_load1 rfl Try.underlying3 rfl evA hpA ceA) ?_
    refine w_pv rfl dC (want_let rfl rfl evA) (p_val evA) ?_
    refine w_pv rfl dC (want_none rfl) (p_val evA) ?_
    refine w_pv rfl dC (want_none rfl) (p_val evA) ?_
    refine w_pv rfl dC (want_let rfl rfl evA) (p_fieldAddr (k := 6) rfl evA kR) ?_
    refine w_rd rfl dC (want_let rfl rfl evA) (r_loadN (n := 9) rfl Try.underlying55 rfl evA hpA kR szA) ?_
    refine w_rd rfl dC (want_let rfl rfl evA) (r_loadN (n := 9) rfl Try.underlying55 rfl evA hpA kR szA) ?_
    refine w_ac rfl dC (want_let rfl rfl evA) (s_call rfl rfl Try.func25 kR kR evA ?_); refine (sameMsg_ok m sv (.slice am m.srcs.length cm) _ hc11 (hcm.le hle9) (by omega) ho10 rfl).mono ?_; rintro r h12 ⟨hle12, rfl⟩; have v5' := hle12 _ _ v5; have v7'' := hle12 _ _ v7
    refine w_pv rfl dC (want_let rfl rfl evA) (p_val evA) ?_
    refine w_pv rfl dC (want_none rfl) (p_val evA) ?_
    refine w_pv rfl dC (want_none rfl) (p_val evA) ?_
    refine w_rd rfl dC (want_let rfl rfl evA) (r_loadN (n := 5) rfl Try.underlying57 rfl evA hpA kR szA) ?_
    refine w_rd rfl dC (want_let rfl rfl evA) (r_loadN (n := 9) rfl Try.underlying55 rfl evA hpA kR szA) ?_
    refine w_ac rfl dC (want_let rfl rfl evA) (s_call rfl rfl Try.func22 kR kR evA ?_); refine (hear_ok b n (.slice an n.srcs.length cn) (t11'.le hle12) (by simp) ((hcn.le hle9).le hle12) (by omega) rfl hsn).mono ?_; rintro r h13 ⟨rfl, D13, chg13, t13⟩
    refine w_pv rfl dC (want_let rfl rfl evA) (p_val evA) ?_
    refine w_pv rfl dC (want_none rfl) (p_val evA) ?_
    refine w_nil ?_
    repeat refine s_seq ?_
    refine s_cond (t := false) slA ?_
    repeat refine s_seq ?_
    refine s_skip ?_
    replace v4 := chg13.keep _ _ d4 (hle12 _ _ v4)
    replace v5 := chg13.keep _ _ d5 v5'
    replace v6 := chg13.keep _ _ d6 (hle12 _ _ v6)
    replace v7 := chg13.keep _ _ d7 v7''
    have hle13 : h.le h13 := fun q o e => chg13.keep q o (hDn q o e) (hle12 q o (hle9 q o e))
    clear chg13 hle12 t11' v5' v7'' v13 hc11
    exact ageOwn_tail m n am an cm cn a b h h13 _ D13 b4 b5 b6 b7 b10 hcm hcn hm hn v4 v5 v6 v7 hle13 t13 slA slA slA slA slA slA
end Go.Proofs.Ytielfejpnkcjbaa
