/- What chapter 15 begins with. -/
import Derived.Test.YtielfejpnkcjbaaAgeAddrs
import Derived.Test.YtielfejpnkcjbaaAgeLess
set_option linter.unusedVariables false
set_option linter.unusedSimpArgs false
namespace Go.Proofs.Ytielfejpnkcjbaa
open Sl
theorem TableAt.new (h : Heap) (p : Nat) (ty : TypeId) : TableAt (h.set p (.cells #[.map none] ty (0, 0))) (fun b => b = p) p [] :=
  ⟨⟨_, ty, Heap.set_same _ _ _, rfl, .inl ⟨rfl, rfl⟩⟩, fun b hb => by rw [hb, Heap.set_same]; simp⟩
theorem TableAt.le {h h' : Heap} {D : Nat → Prop} {p : Nat} {ts : List AT} (t : TableAt h D p ts) (hle : h.le h') : TableAt h' D p ts := by
  obtain ⟨mv, ty, hp, hDp, hmap⟩ := t.out
  refine ⟨⟨mv, ty, hle _ _ hp, hDp, hmap.imp id fun ⟨mb, rs, cl, e1, e2, e3, e4, e5⟩ => ⟨mb, rs, cl, e1, e2, ⟨hle _ _ e3.1, e3.2⟩, e4, fun r hr => (e5 r hr).only fun b o _ e _ => hle b o e⟩⟩, fun b hb => ?_⟩
  cases e : h b with
  | none => exact absurd e (t.dom b hb)
  | some o => rw [hle b o e]; simp
def m0 : MsgA := ⟨0, 0, 0, 0, 0, 5, 0, false, []⟩
def k0 : ThK := ((1, 0, 0), (0, 0))
theorem first15_ok (h : Heap) : SCalls Try.prog 20 #[] h (fun r h' => h.le h' ∧ r = .bool true) := by
  refine s_enter Try.func20 rfl (by rw [Try.ntmps20]; simp) ?_
  rw [Try.ntmps20]
  generalize hT : T0 #[] = T
  clear hT
  repeat refine s_seq ?_
  refine s_region ?_
  refine w_pv rfl dC (want_none rfl) (p_val evA) ?_
  refine w_nil ?_
  repeat refine s_seq ?_
  refine s_region ?_
  refine w_al rfl dC (want_none rfl) (a_allocZ (z := .agg #[.map none]) (zs := #[.map none]) rfl kR rfl) ?_
  intro b1 hb1
  refine w_nil ?_
  have t := TableAt.new h b1 60
  have chg : Chg (fun b => b = b1) (fun b => b = b1) h (h.set b1 (.cells #[.map none] 60 (0, 0))) := (Chg.refl _ _).le (Heap.le_set _ hb1)
  change SCode _ _ _ _ _ (h.set b1 (.cells #[.map none] 60 (0, 0)))
  generalize h.set b1 (.cells #[.map none] 60 (0, 0)) = hx at t chg ⊢
  have hk : (Value.agg #[.int .i64 1, .int .i64 0, .int .u32 0, .int .u32 0, .int .u32 0]) = thV k0 := rfl
  repeat refine s_seq ?_
  refine s_region ?_
  refine w_pv rfl dC (want_none rfl) (p_buildL (places := [(0, 1), (1, 1), (2, 1), (3, 2)]) (z := [.int .i64 0, .int .i64 0, .int .u32 0, .int .u32 0, .int .u32 0]) (cells := [_, .int .i64 0, .int .u32 0, .int .u32 0, .int .u32 0]) rfl evA kR kR (by rfl)) ?_
  refine w_al rfl dC (want_none rfl) (a_allocZ (z := .agg #[.int .i64 0, .int .i64 0, .int .u32 0, .int .u32 0, .int .u32 0]) (zs := #[.int .i64 0, .int .i64 0, .int .u32 0, .int .u32 0, .int .u32 0]) rfl kR rfl) ?_
  intro b2 hb2
  refine w_st rfl (want_none rfl) (s_storeN (n := 5) rfl evA evA ocA kR szA kR hpA szA ?_)
  refine w_nil ?_
  rw [set_set]
  refine genH fun h2 hh => ?_
  have hb2v : h2 b2 = some (.cells #[.int .i64 1, .int .i64 0, .int .u32 0, .int .u32 0, .int .u32 0] 57 (0, 0)) := by rw [hh]; exact Heap.set_same _ _ _
  have hle2 : hx.le h2 := by rw [hh]; exact Heap.le_set _ hb2
  clear hh
  have t2 := t.le hle2
  have chg2 := chg.le hle2
  have h2d : ¬ b2 = b1 := fun e => t.dom b1 rfl (by rw [← e]; exact hb2)
  clear t chg hle2 hb2
  repeat refine s_seq ?_
  refine s_region ?_
  refine w_rd rfl dC (want_none rfl) (r_loadN (n := 5) rfl Try.underlying57 rfl evA hpA kR szA) ?_
  refine w_pv rfl dC (want_none rfl) (p_buildL (places := [(0, 1), (1, 1), (2, 1), (3, 2), (5, 1), (6, 1), (7, 1), (8, 1)]) (z := [.int .i64 0, .int .u32 0, .int .u32 0, .int .u32 0, .int .u32 0, .int .i64 0, .int .i64 0, .bool false, .slice none 0 0]) (cells := [.int .i64 0, .int .u32 0, .int .u32 0, .int .u32 0, .int .u32 0, _, .int .i64 0, .bool false, .slice none 0 0]) rfl evA kR kR (by rfl)) ?_
  refine w_ac rfl dC (want_none rfl) (s_call rfl rfl Try.func22 kR kR evA ?_); refine (hear_ok k0 m0 (.slice none 0 0) t2 (by decide) (.zero none 0) (by decide) rfl (by intro _ b e; cases e)).mono ?_; rintro r h3 ⟨rfl, D3, chg3, t3⟩
  refine w_pv rfl dC (want_none rfl) (p_val evA) ?_
  refine w_nil ?_
  have hb2w := chg3.keep b2 _ h2d hb2v
  have hd3 : ¬ D3 b2 := fun hd => by
    rcases chg3.ext b2 hd with h8 | h8
    · exact h2d h8
    · rw [h8] at hb2v; cases hb2v
  replace t3 : TableAt h3 D3 b1 [⟨k0, 0, m0⟩] := t3
  repeat refine s_seq ?_
  refine s_cond (t := false) slA ?_
  repeat refine s_seq ?_
  refine s_skip ?_
  repeat refine s_seq ?_
  refine s_region ?_
  refine w_ac rfl dC (want_none rfl) (s_call rfl rfl Try.func23 kR kR evA ?_); refine (tick_ok t3 (by decide)).mono ?_; rintro r h4 ⟨rfl, chg4, t4⟩; replace t4 : TableAt h4 D3 b1 [⟨k0, 1, m0⟩] := t4
  refine w_nil ?_
  repeat refine s_seq ?_
  refine s_region ?_
  refine w_ac rfl dC (want_none rfl) (s_call rfl rfl Try.func23 kR kR evA ?_); refine (tick_ok t4 (by decide)).mono ?_; rintro r h5 ⟨rfl, chg5, t5⟩; replace t5 : TableAt h5 D3 b1 [⟨k0, 2, m0⟩] := t5
  refine w_nil ?_
  repeat refine s_seq ?_
  refine s_region ?_
  refine w_ac rfl dC (want_none rfl) (s_call rfl rfl Try.func23 kR kR evA ?_); refine (tick_ok t5 (by decide)).mono ?_; rintro r h6 ⟨rfl, chg6, t6⟩; replace t6 : TableAt h6 D3 b1 [⟨k0, 3, m0⟩] := t6
  refine w_nil ?_
  have chgA := ((chg2.trans chg3).trans chg4).trans (chg5.trans chg6)
  have hb2x := (chg4.trans (chg5.trans chg6)).keep b2 _ hd3 hb2w
  repeat refine s_seq ?_
  refine s_region ?_
  refine w_rd rfl dC (want_none rfl) (r_loadN (n := 5) rfl Try.underlying57 rfl evA hpA kR szA) ?_
  refine w_ac rfl dC (want_none rfl) (s_call rfl rfl Try.func24 kR kR evA ?_); refine (tget_ok k0 t6 ⟨k0, 3, m0⟩ (by simp) rfl (by intro y hy _; simpa using hy)).mono ?_; rintro r h7 ⟨hle7, sv, rfl, hc7, hn7, ho7⟩
  refine w_pv rfl dC (want_none rfl) (p_val evA) ?_
  refine w_pv rfl dC (want_none rfl) (p_val evA) ?_
  refine w_pv rfl dC (want_none rfl) (p_val evA) ?_
  refine w_al rfl dC (want_none rfl) (a_allocZ (z := .agg #[.int .i64 0, .int .i64 0, .int .u32 0, .int .u32 0, .int .u32 0, .int .i64 0, .int .i64 0, .int .u32 0, .int .u32 0, .int .u32 0, .int .u32 0, .int .i64 0, .int .i64 0, .bool false, .slice none 0 0]) (zs := #[.int .i64 0, .int .i64 0, .int .u32 0, .int .u32 0, .int .u32 0, .int .i64 0, .int .i64 0, .int .u32 0, .int .u32 0, .int .u32 0, .int .u32 0, .int .i64 0, .int .i64 0, .bool false, .slice none 0 0]) rfl kR rfl) ?_
  intro b3 hb3
  refine w_st rfl (want_none rfl) (s_storeN (n := 15) rfl evA evA ocA kR szA kR hpA szA ?_)
  refine w_pv rfl dC (want_none rfl) (p_val evA) ?_
  refine w_nil ?_
  rw [set_set]
  refine genH fun h8 hh => ?_
  have hb3v : h8 b3 = some (.cells #[.int .i64 1, .int .i64 0, .int .u32 0, .int .u32 0, .int .u32 0, .int .i64 3, .int .i64 0, .int .u32 0, .int .u32 0, .int .u32 0, .int .u32 0, .int .i64 5, .int .i64 0, .bool false, sv] 64 (0, 0)) := by rw [hh]; exact Heap.set_same _ _ _
  have hle8 : h7.le h8 := by rw [hh]; exact Heap.le_set _ hb3
  clear hh
  have t8 := (t6.le hle7).le hle8
  have chg8 := (chgA.le hle7).le hle8
  repeat refine s_seq ?_
  refine s_region ?_
  refine w_pv rfl dC (want_none rfl) (p_val evA) ?_
  refine w_pv rfl dC (want_none rfl) (p_val evA) ?_
  refine w_pv rfl dC (want_let rfl rfl evA) (p_fieldAddr (k := 5) rfl evA kR) ?_
  refine w_rd rfl dC (want_let rfl rfl evA) (r_load1 rfl Try.underlying3 rfl evA hpA ceA) ?_
  refine w_pv rfl dC (want_let rfl rfl evA) (p_val evA) ?_
  refine w_pv rfl dC (want_none rfl) (p_val evA) ?_
  refine w_pv rfl dC (want_none rfl) (p_val evA) ?_
  refine w_ac rfl dC (want_let rfl rfl evA) (s_call rfl rfl Try.func23 kR kR evA ?_); refine (tick_ok t8 (by decide)).mono ?_; rintro r h9 ⟨rfl, chg9, t9⟩; replace t9 : TableAt h9 D3 b1 [] := t9
  refine w_pv rfl dC (want_let rfl rfl evA) (p_val evA) ?_
  refine w_pv rfl dC (want_none rfl) (p_val evA) ?_
  refine w_pv rfl dC (want_none rfl) (p_val evA) ?_
  refine w_ac rfl dC (want_let rfl rfl evA) (s_call rfl rfl Try.func27 kR kR evA ?_); refine (tlen_ok t9).mono ?_; rintro r h10 ⟨rfl, rfl⟩
  refine w_pv rfl dC (want_let rfl rfl evA) (p_val evA) ?_
  refine w_pv rfl dC (want_none rfl) (p_val evA) ?_
  refine w_pv rfl dC (want_none rfl) (p_val evA) ?_
  refine w_nil ?_
  exact s_ret ⟨_, res_one rfl rfl, fun b o e => (chg8.trans chg9).keep b o (fun e1 => by rw [e1, hb1] at e; cases e) e, by simp only [pval, ev, upd, binVal, intBin, Option.map_some, ↓reduceIte, reduceCtorEq, Nat.reduceEqDiff, Nat.reduceBEq, List.map_toArray, List.map_cons, List.map_nil, cond_true, cond_false, decide_true, decide_false, Bool.not_true, Bool.not_false, Bool.true_and, Bool.false_and, Bool.and_true, Bool.and_false, beq_self_eq_true, bne_self_eq_false, List.getElem_toArray, List.getElem_cons_succ, List.getElem_cons_zero]; rfl⟩
end Go.Proofs.Ytielfejpnkcjbaa
