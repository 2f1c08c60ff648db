/- What the chapter begins with; how many prefixes there are. -/
import Derived.Test.YtielfejpnkcjbaaTrieLook
set_option linter.unusedVariables false
set_option linter.unusedSimpArgs false
namespace Go.Proofs.Ytielfejpnkcjbaa
open Sl
theorem bestOf_none {nums : List Bool → List Int} {A : Nat} (h : ∀ q, nums q = []) : ∀ j, bestOf nums A j = none
  | 0 => rfl
  | j + 1 => by simp [bestOf, h, bestOf_none h j]
theorem bestOf_at {nums : List Bool → List Int} {A i j : Nat} (hi : i < j) (hn : nums (path A i) ≠ []) (ho : ∀ k, i < k → k < j → nums (path A k) = []) : bestOf nums A j = some i := by
  rw [bestOf_over (j := i + 1) (fun k a b => ho k (by omega) b) (by omega)]
  simp [bestOf, hn]
theorem countOf_pos {ps : Puts} {k : Int × Int} : countOf ps k ≠ 0 ↔ ∃ x ∈ ps, ((x.1.1 : Int), (x.1.2 : Int)) = k := by
  unfold countOf
  rw [Ne, List.length_eq_zero_iff, List.filter_eq_nil_iff]
  simp
theorem CntOk.mem {ps : Puts} {l : Cnt} (c : CntOk ps l) (k : Int × Int) : k ∈ l.map (·.1) ↔ ∃ x ∈ ps, ((x.1.1 : Int), (x.1.2 : Int)) = k := by
  rw [← countOf_pos, ← hasK_mem]
  have h1 := c.get k
  have h2 := getK_none l k
  constructor
  · intro hh e
    rw [e] at h1
    simp at h1
    rw [h2.1 h1] at hh; cases hh
  · intro hh
    rw [if_neg hh] at h1
    cases e : hasK l k with
    | true => rfl
    | false => rw [h2.2 e] at h1; cases h1
theorem CntOk.len {ps : Puts} {l : Cnt} (c : CntOk ps l) (ks : List (Int × Int)) (nd : ks.Nodup) (hk : ∀ k, k ∈ ks ↔ ∃ x ∈ ps, ((x.1.1 : Int), (x.1.2 : Int)) = k) : l.length = ks.length := by
  have hp : (l.map (·.1)).Perm ks := (List.perm_ext_iff_of_nodup c.one nd).2 fun k => (c.mem k).trans (hk k).symm
  have := hp.length_eq
  simpa using this
theorem first_ok (h : Heap) : SCalls Try.prog 11 #[] h (fun r h' => h.le h' ∧ r = .bool true) := by
  refine s_enter Try.func11 rfl (by rw [Try.ntmps11]; simp) ?_
  rw [Try.ntmps11]
  generalize hT : T0 #[] = T
  clear hT
  repeat refine s_seq ?_
  refine s_region ?_
  refine w_pv rfl dC (want_none rfl) (p_val evA) ?_
  refine w_nil ?_
  repeat refine s_seq ?_
  refine s_region ?_
  refine w_al rfl dC (want_none rfl) (a_allocZ (z := .agg #[.pointer none, .pointer none, .slice none 0 0, .map none]) (zs := #[.pointer none, .pointer none, .slice none 0 0, .map none]) rfl kR rfl) ?_
  intro b1 hb1
  refine w_nil ?_
  have hle1 := Heap.le_set (.cells #[.pointer none, .pointer none, .slice none 0 0, .map none] 33 (0, 0)) hb1
  have t := TrieAt.new h b1 33
  have hbn : bestOf (numsOf []) 5 33 = none := bestOf_none (fun q => rfl) 33
  change SCode _ _ _ _ _ (h.set b1 (.cells #[.pointer none, .pointer none, .slice none 0 0, .map none] 33 (0, 0)))
  generalize (h.set b1 (.cells #[.pointer none, .pointer none, .slice none 0 0, .map none] 33 (0, 0))) = hx at hle1 t ⊢
  repeat refine s_seq ?_
  refine s_region ?_
  refine w_ac rfl dC (want_none rfl) (s_call rfl rfl Try.func15 kR kR evA ?_); refine (look_ok 5 t (by decide)).mono ?_; rintro r h2 ⟨hle2, hr⟩; rw [hbn] at hr; replace hr : r = .tuple #[pfxV 0 0, .slice none 0 0, .bool false] := hr; subst hr; have hag : pfxV 0 0 = .agg #[.int .u32 0, .int .i64 0] := rfl
  refine w_pv rfl dC (want_none rfl) (p_val evA) ?_
  refine w_pv rfl dC (want_none rfl) (p_val evA) ?_
  refine w_pv rfl dC (want_none rfl) (p_val evA) ?_
  refine w_pv rfl dC (want_none rfl) (p_val evA) ?_
  refine w_al rfl dC (want_none rfl) (a_allocZ (z := .agg #[.int .u32 0, .int .i64 0]) (zs := #[.int .u32 0, .int .i64 0]) rfl kR rfl) ?_
  intro b2 hb2
  refine w_st rfl (want_none rfl) (s_storeN (n := 2) rfl evA evA ocA kR szA kR hpA szA ?_)
  refine w_pv rfl dC (want_none rfl) (p_val evA) ?_
  refine w_pv rfl dC (want_none rfl) (p_val evA) ?_
  refine w_nil ?_
  rw [set_set]
  change SCode _ _ _ _ _ (h2.set b2 (.cells #[.int .u32 0, .int .i64 0] 37 (0, 0)))
  have hle3 := Heap.le_set (.cells #[.int .u32 0, .int .i64 0] 37 (0, 0)) hb2
  have t3 := (t.le hle2).le hle3
  have h03 := Heap.le_trans (Heap.le_trans hle1 hle2) hle3
  generalize (h2.set b2 (.cells #[.int .u32 0, .int .i64 0] 37 (0, 0))) = h3 at hle3 t3 h03 ⊢
  have hb1n : h b1 = none := hb1
  repeat refine s_seq ?_
  refine s_region ?_
  refine w_pv rfl dC (want_none rfl) (p_val evA) ?_
  refine w_pv rfl dC (want_none rfl) (p_val evA) ?_
  refine w_pv rfl dC (want_none rfl) (p_val evA) ?_
  refine w_pv rfl dC (want_let rfl rfl evA) (p_buildL (places := [(0, 1), (1, 1)]) (z := [.int .u32 0, .int .i64 0]) (cells := [.int .u32 0, .int .i64 0]) rfl evA kR kR (by rfl)) ?_
  refine w_ac rfl dC (want_let rfl rfl evA) (s_call rfl rfl Try.func13 kR kR evA ?_); refine (put_ok 0 0 7 t3 (by decide) (by decide)).mono ?_; rintro r h4 ⟨hr, D4, chg4, t4⟩; rw [show okPfx 0 0 = true by decide] at hr t4; subst hr; simp only [if_true] at t4
  refine w_pv rfl dC (want_none rfl) (p_val evA) ?_
  refine w_pv rfl dC (want_none rfl) (p_val evA) ?_
  refine w_ac rfl dC (want_let rfl rfl evA) (s_call rfl rfl Try.func17 kR kR evA ?_); refine (len_ok t4).mono ?_; rintro r h5 ⟨rfl, l, cl, rfl⟩; rw [cl.len [(0, 0)] (by simp) (by intro k; simp [eq_comm])]
  refine w_pv rfl dC (want_let rfl rfl evA) (p_val evA) ?_
  refine w_pv rfl dC (want_none rfl) (p_val evA) ?_
  refine w_pv rfl dC (want_none rfl) (p_val evA) ?_
  refine w_nil ?_
  refine s_ret ⟨_, res_one rfl rfl, fun b o e => chg4.keep b o (fun e1 => by rw [e1, hb1n] at e; cases e) (h03 b o e), ?_⟩
  simp only [pval, ev, upd, binVal, intBin, Option.map_some, ↓reduceIte, reduceCtorEq, Nat.reduceEqDiff, Nat.reduceBEq, List.map_toArray, List.map_cons, List.map_nil, cond_true, cond_false, decide_true, decide_false, Bool.not_true, Bool.not_false, Bool.true_and, Bool.false_and, Bool.and_true, Bool.and_false, beq_self_eq_true, bne_self_eq_false, List.getElem_toArray, List.getElem_cons_succ, List.getElem_cons_zero]
  rfl
end Go.Proofs.Ytielfejpnkcjbaa
