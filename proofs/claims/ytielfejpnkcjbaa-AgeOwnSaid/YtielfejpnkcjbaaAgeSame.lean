/- Keys, messages held against each other. -/
import Derived.Test.YtielfejpnkcjbaaAgeGet
set_option linter.unusedVariables false
set_option linter.unusedSimpArgs false
namespace Go.Proofs.Ytielfejpnkcjbaa
open Sl
def keyV (s g : Int) : Value := .agg #[.int .u32 s, .int .u32 g]
theorem sameKey_ok (s1 g1 s2 g2 : Int) (h : Heap) : SCalls Try.prog 26 #[keyV s1 g1, keyV s2 g2] h (fun r h' => h.le h' ∧ r = .bool (s1 == s2 && g1 == g2)) := by
  refine s_enter Try.func26 rfl (by rw [Try.ntmps26]; simp) ?_
  rw [Try.ntmps26]
  generalize hT : T0 #[keyV s1 g1, keyV s2 g2] = T
  have h0 : T 0 = .agg #[.int .u32 s1, .int .u32 g1] := by rw [← hT]; rfl
  have h1 : T 1 = .agg #[.int .u32 s2, .int .u32 g2] := by rw [← hT]; rfl
  clear hT
  repeat refine s_seq ?_
  refine s_region ?_
  refine w_al rfl dC (want_none rfl) (a_boxN rfl evA) ?_
  intro b2 hb2
  refine w_al rfl dC (want_none rfl) (a_boxN rfl evA) ?_
  intro b3 hb3
  have hne3_2 : b3 ≠ b2 := by rintro rfl; first | (simp [Heap.set] at hb3; done) | (simp [Heap.set] at hb3; split at hb3 <;> simp at hb3; done) | (simp [Heap.set] at hb3; (repeat' (split at hb3)) <;> simp_all)
  have hne2_3 := hne3_2.symm
  refine w_pv rfl dC (want_none rfl) (p_val evA) ?_
  refine w_nil ?_
  refine genH fun h2 hh => ?_
  have hb2v : h2 b2 = some (.cells #[.int .u32 s1, .int .u32 g1] 52 (0, 0)) := by rw [hh, Heap.set_other _ _ hne2_3]; exact Heap.set_same _ _ _
  have hb3v : h2 b3 = some (.cells #[.int .u32 s2, .int .u32 g2] 52 (0, 0)) := by rw [hh]; exact Heap.set_same _ _ _
  have hle : h.le h2 := by rw [hh]; exact Heap.le_trans (Heap.le_set _ hb2) (Heap.le_set _ hb3)
  clear hh
  cases hs : (s1 == s2) with
  | true =>
    repeat refine s_seq ?_
    refine s_region ?_
    refine w_pv rfl dC (want_none rfl) (p_fieldAddr (k := 0) rfl evA kR) ?_
    refine w_rd rfl dC (want_none rfl) (r_load1 rfl Try.underlying23 rfl evA hpA ceA) ?_
    refine w_pv rfl dC (want_none rfl) (p_fieldAddr (k := 0) rfl evA kR) ?_
    refine w_rd rfl dC (want_none rfl) (r_load1 rfl Try.underlying23 rfl evA hpA ceA) ?_
    refine w_pv rfl dC (want_none rfl) (p_val evA) ?_
    refine w_pv rfl dC (want_none rfl) (p_val evA) ?_
    refine w_pv rfl dC (want_let rfl rfl evA) (p_fieldAddr (k := 1) rfl evA kR) ?_
    refine w_rd rfl dC (want_let rfl rfl evA) (r_load1 rfl Try.underlying23 rfl evA hpA ceA) ?_
    refine w_pv rfl dC (want_let rfl rfl evA) (p_fieldAddr (k := 1) rfl evA kR) ?_
    refine w_rd rfl dC (want_let rfl rfl evA) (r_load1 rfl Try.underlying23 rfl evA hpA ceA) ?_
    refine w_pv rfl dC (want_let rfl rfl evA) (p_val evA) ?_
    refine w_pv rfl dC (want_none rfl) (p_val evA) ?_
    refine w_pv rfl dC (want_none rfl) (p_val evA) ?_
    refine w_nil ?_
    exact s_ret ⟨_, res_one rfl rfl, hle, slA⟩
  | false =>
    repeat refine s_seq ?_
    refine s_region ?_
    refine w_pv rfl dC (want_none rfl) (p_fieldAddr (k := 0) rfl evA kR) ?_
    refine w_rd rfl dC (want_none rfl) (r_load1 rfl Try.underlying23 rfl evA hpA ceA) ?_
    refine w_pv rfl dC (want_none rfl) (p_fieldAddr (k := 0) rfl evA kR) ?_
    refine w_rd rfl dC (want_none rfl) (r_load1 rfl Try.underlying23 rfl evA hpA ceA) ?_
    refine w_pv rfl dC (want_none rfl) (p_val evA) ?_
    refine w_pv rfl dC (want_none rfl) (p_val evA) ?_
    refine w_skp rfl dC (want_not rfl rfl evA rfl) ?_
    refine w_skp rfl dC (want_not rfl rfl evA rfl) ?_
    refine w_skp rfl dC (want_not rfl rfl evA rfl) ?_
    refine w_skp rfl dC (want_not rfl rfl evA rfl) ?_
    refine w_skp rfl dC (want_not rfl rfl evA rfl) ?_
    refine w_pv rfl dC (want_none rfl) (p_val evA) ?_
    refine w_pv rfl dC (want_none rfl) (p_val evA) ?_
    refine w_nil ?_
    exact s_ret ⟨_, res_one rfl rfl, hle, slA⟩
theorem sameMsg_ok (m : MsgA) (sv1 sv2 : Value) (h : Heap) (hc1 : Cells h 1 sv1 m.srcs.length (m.srcs.map (.int .u32))) (hc2 : Cells h 1 sv2 m.srcs.length (m.srcs.map (.int .u32))) (hn : m.srcs.length ≤ 1000000) (ho1 : sv1.oneCell' = true) (ho2 : sv2.oneCell' = true) :
    SCalls Try.prog 25 #[msgV m sv1, msgV m sv2] h (fun r h' => h.le h' ∧ r = .bool true) := by
  refine s_enter Try.func25 rfl (by rw [Try.ntmps25]; simp) ?_
  rw [Try.ntmps25]
  generalize hT : T0 #[msgV m sv1, msgV m sv2] = T
  have h0 : T 0 = .agg #[.int .i64 m.kind, .int .u32 m.frm, .int .u32 m.to, .int .u32 m.src, .int .u32 m.grp, .int .i64 m.rank, .int .i64 m.cost, .bool m.only, sv1] := by rw [← hT]; rfl
  have h1 : T 1 = .agg #[.int .i64 m.kind, .int .u32 m.frm, .int .u32 m.to, .int .u32 m.src, .int .u32 m.grp, .int .i64 m.rank, .int .i64 m.cost, .bool m.only, sv2] := by rw [← hT]; rfl
  clear hT
  repeat refine s_seq ?_
  refine s_region ?_
  refine w_al rfl dC (want_none rfl) (a_boxN rfl evA) ?_
  intro b2 hb2
  refine w_al rfl dC (want_none rfl) (a_boxN rfl evA) ?_
  intro b3 hb3
  have hne3_2 : b3 ≠ b2 := by rintro rfl; first | (simp [Heap.set] at hb3; done) | (simp [Heap.set] at hb3; split at hb3 <;> simp at hb3; done) | (simp [Heap.set] at hb3; (repeat' (split at hb3)) <;> simp_all)
  have hne2_3 := hne3_2.symm
  refine w_pv rfl dC (want_none rfl) (p_val evA) ?_
  refine w_nil ?_
  refine genH fun h2 hh => ?_
  have hb2v : h2 b2 = some (.cells #[.int .i64 m.kind, .int .u32 m.frm, .int .u32 m.to, .int .u32 m.src, .int .u32 m.grp, .int .i64 m.rank, .int .i64 m.cost, .bool m.only, sv1] 55 (0, 0)) := by rw [hh, Heap.set_other _ _ hne2_3]; exact Heap.set_same _ _ _
  have hb3v : h2 b3 = some (.cells #[.int .i64 m.kind, .int .u32 m.frm, .int .u32 m.to, .int .u32 m.src, .int .u32 m.grp, .int .i64 m.rank, .int .i64 m.cost, .bool m.only, sv2] 55 (0, 0)) := by rw [hh]; exact Heap.set_same _ _ _
  have hle : h.le h2 := by rw [hh]; exact Heap.le_trans (Heap.le_set _ hb2) (Heap.le_set _ hb3)
  clear hh
  have hkey : (Value.agg #[.int .u32 m.src, .int .u32 m.grp]) = keyV m.src m.grp := rfl
  have heq : eqv Try.prog 10000 4 (.bool m.only) (.bool m.only) = some true := by simp [eqv]
  repeat refine s_seq ?_
  refine s_region ?_
  refine w_pv rfl dC (want_none rfl) (p_fieldAddr (k := 0) rfl evA kR) ?_
  refine w_rd rfl dC (want_none rfl) (r_load1 rfl Try.underlying3 rfl evA hpA ceA) ?_
  refine w_pv rfl dC (want_none rfl) (p_fieldAddr (k := 0) rfl evA kR) ?_
  refine w_rd rfl dC (want_none rfl) (r_load1 rfl Try.underlying3 rfl evA hpA ceA) ?_
  refine w_pv rfl dC (want_none rfl) (p_val evA) ?_
  refine w_pv rfl dC (want_none rfl) (p_val evA) ?_
  refine w_pv rfl dC (want_let rfl rfl evA) (p_fieldAddr (k := 1) rfl evA kR) ?_
  refine w_rd rfl dC (want_let rfl rfl evA) (r_load1 rfl Try.underlying23 rfl evA hpA ceA) ?_
  refine w_pv rfl dC (want_let rfl rfl evA) (p_fieldAddr (k := 1) rfl evA kR) ?_
  refine w_rd rfl dC (want_let rfl rfl evA) (r_load1 rfl Try.underlying23 rfl evA hpA ceA) ?_
  refine w_pv rfl dC (want_let rfl rfl evA) (p_val evA) ?_
  refine w_pv rfl dC (want_none rfl) (p_val evA) ?_
  refine w_pv rfl dC (want_none rfl) (p_val evA) ?_
  refine w_pv rfl dC (want_let rfl rfl evA) (p_fieldAddr (k := 2) rfl evA kR) ?_
  refine w_rd rfl dC (want_let rfl rfl evA) (r_load1 rfl Try.underlying23 rfl evA hpA ceA) ?_
  refine w_pv rfl dC (want_let rfl rfl evA) (p_fieldAddr (k := 2) rfl evA kR) ?_
  refine w_rd rfl dC (want_let rfl rfl evA) (r_load1 rfl Try.underlying23 rfl evA hpA ceA) ?_
  refine w_pv rfl dC (want_let rfl rfl evA) (p_val evA) ?_
  refine w_pv rfl dC (want_none rfl) (p_val evA) ?_
  refine w_pv rfl dC (want_none rfl) (p_val evA) ?_
  refine w_pv rfl dC (want_let rfl rfl evA) (p_fieldAddr (k := 3) rfl evA kR) ?_
  refine w_rd rfl dC (want_let rfl rfl evA) (r_loadN (n := 2) rfl Try.underlying52 rfl evA hpA kR szA) ?_
  refine w_pv rfl dC (want_let rfl rfl evA) (p_fieldAddr (k := 3) rfl evA kR) ?_
  refine w_rd rfl dC (want_let rfl rfl evA) (r_loadN (n := 2) rfl Try.underlying52 rfl evA hpA kR szA) ?_
  refine w_ac rfl dC (want_let rfl rfl evA) (s_call rfl rfl Try.func26 kR kR evA ?_); refine (sameKey_ok m.src m.grp m.src m.grp _).mono ?_; rintro r h3 ⟨hle3, rfl⟩; have hb2w := hle3 _ _ hb2v; have hb3w := hle3 _ _ hb3v
  refine w_pv rfl dC (want_none rfl) (p_val evA) ?_
  refine w_pv rfl dC (want_none rfl) (p_val evA) ?_
  refine w_pv rfl dC (want_let rfl rfl evA) (p_fieldAddr (k := 5) rfl evA kR) ?_
  refine w_rd rfl dC (want_let rfl rfl evA) (r_load1 rfl Try.underlying3 rfl evA hpA ceA) ?_
  refine w_pv rfl dC (want_let rfl rfl evA) (p_fieldAddr (k := 5) rfl evA kR) ?_
  refine w_rd rfl dC (want_let rfl rfl evA) (r_load1 rfl Try.underlying3 rfl evA hpA ceA) ?_
  refine w_pv rfl dC (want_let rfl rfl evA) (p_val evA) ?_
  refine w_pv rfl dC (want_none rfl) (p_val evA) ?_
  refine w_pv rfl dC (want_none rfl) (p_val evA) ?_
  refine w_pv rfl dC (want_let rfl rfl evA) (p_fieldAddr (k := 6) rfl evA kR) ?_
  refine w_rd rfl dC (want_let rfl rfl evA) (r_load1 rfl Try.underlying3 rfl evA hpA ceA) ?_
  refine w_pv rfl dC (want_let rfl rfl evA) (p_fieldAddr (k := 6) rfl evA kR) ?_
  refine w_rd rfl dC (want_let rfl rfl evA) (r_load1 rfl Try.underlying3 rfl evA hpA ceA) ?_
  refine w_pv rfl dC (want_let rfl rfl evA) (p_val evA) ?_
  refine w_pv rfl dC (want_none rfl) (p_val evA) ?_
  refine w_pv rfl dC (want_none rfl) (p_val evA) ?_
  refine w_pv rfl dC (want_let rfl rfl evA) (p_fieldAddr (k := 7) rfl evA kR) ?_
  refine w_rd rfl dC (want_let rfl rfl evA) (r_load1 rfl Try.underlying4 rfl evA hpA ceA) ?_
  refine w_pv rfl dC (want_let rfl rfl evA) (p_fieldAddr (k := 7) rfl evA kR) ?_
  refine w_rd rfl dC (want_let rfl rfl evA) (r_load1 rfl Try.underlying4 rfl evA hpA ceA) ?_
  refine w_rd rfl dC (want_let rfl rfl evA) (r_eql rfl evA evA gdA eqA rfl) ?_
  refine w_pv rfl dC (want_none rfl) (p_val evA) ?_
  refine w_pv rfl dC (want_none rfl) (p_val evA) ?_
  refine w_pv rfl dC (want_let rfl rfl evA) (p_fieldAddr (k := 8) rfl evA kR) ?_
  refine w_rd rfl dC (want_let rfl rfl evA) (r_load1 rfl Try.underlying53 rfl evA hpA ceA) ?_
  refine w_pv rfl dC (want_let rfl rfl evA) (p_fieldAddr (k := 8) rfl evA kR) ?_
  refine w_rd rfl dC (want_let rfl rfl evA) (r_load1 rfl Try.underlying53 rfl evA hpA ceA) ?_
  refine w_ac rfl dC (want_let rfl rfl evA) (s_call rfl rfl Try.func48 kR kR evA ?_); refine (sameAddrs_ok sv1 sv2 m.srcs m.srcs _ ((hc1.le hle).le hle3) ((hc2.le hle).le hle3) (by omega) (by omega)).mono ?_; rintro r h4 ⟨rfl, rfl⟩
  refine w_pv rfl dC (want_none rfl) (p_val evA) ?_
  refine w_pv rfl dC (want_none rfl) (p_val evA) ?_
  refine w_nil ?_
  exact s_ret ⟨_, res_one rfl rfl, Heap.le_trans hle hle3, slA⟩
end Go.Proofs.Ytielfejpnkcjbaa
