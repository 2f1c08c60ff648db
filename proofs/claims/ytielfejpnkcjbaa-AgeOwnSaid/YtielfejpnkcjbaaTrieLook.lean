/- Clone, Look, Len, Get. -/
import Derived.Test.YtielfejpnkcjbaaTriePut
set_option linter.unusedVariables false
set_option linter.unusedSimpArgs false
namespace Go.Proofs.Ytielfejpnkcjbaa
open Sl
theorem cloneInts_ok {h : Heap} {v : Value} {n : Nat} {cs : List Value} (x : Cells h 1 v n cs) (hn : n ≤ 34359738368) (h1 : ∀ u ∈ cs, u.oneCell' = true) :
    SCalls Try.prog 46 #[v] h (fun r h' => h.le h' ∧ Own h' 3 1 r n cs ∧ ∀ b, blockOf r = some b → h b = none) := by
  refine s_enter Try.func46 rfl (by rw [Try.ntmps46]; simp) ?_
  rw [Try.ntmps46]
  generalize hT : T0 #[v] = T
  have h0 : T 0 = v := by rw [← hT]; rfl
  clear hT
  obtain ⟨a, c, rfl⟩ := x.form
  cases a with
  | none =>
    obtain ⟨rfl, rfl⟩ : n = 0 ∧ cs = [] := by cases x; exact ⟨rfl, rfl⟩
    repeat refine s_seq ?_
    refine s_region ?_
    refine w_pv rfl dC (want_none rfl) (p_val evA) ?_
    refine w_nil ?_
    repeat refine s_seq ?_
    refine s_region ?_
    refine w_pv rfl dC (want_none rfl) (p_val evA) ?_
    refine w_rd rfl dC (want_none rfl) (r_eql rfl evA evA gdA eqA rfl) ?_
    refine w_nil ?_
    repeat refine s_seq ?_
    refine s_cond (t := true) slA ?_
    repeat refine s_seq ?_
    refine s_region ?_
    refine w_pv rfl dC (want_none rfl) (p_val evA) ?_
    refine w_nil ?_
    exact s_ret ⟨_, res_one rfl rfl, Heap.le_refl _, by simp only [pval, ev, upd, binVal, intBin, Option.map_some, ↓reduceIte, reduceCtorEq, Nat.reduceEqDiff, Nat.reduceBEq, List.map_toArray, List.map_cons, List.map_nil, cond_true, cond_false, decide_true, decide_false, Bool.not_true, Bool.not_false, Bool.true_and, Bool.false_and, Bool.and_true, Bool.and_false, beq_self_eq_true, bne_self_eq_false, List.getElem_toArray, List.getElem_cons_succ, List.getElem_cons_zero, *]; exact .nil, fun b e => by simp only [pval, ev, upd, binVal, intBin, Option.map_some, ↓reduceIte, reduceCtorEq, Nat.reduceEqDiff, Nat.reduceBEq, List.map_toArray, List.map_cons, List.map_nil, cond_true, cond_false, decide_true, decide_false, Bool.not_true, Bool.not_false, Bool.true_and, Bool.false_and, Bool.and_true, Bool.and_false, beq_self_eq_true, bne_self_eq_false, List.getElem_toArray, List.getElem_cons_succ, List.getElem_cons_zero, *] at e; cases e⟩
  | some ad =>
    repeat refine s_seq ?_
    refine s_region ?_
    refine w_pv rfl dC (want_none rfl) (p_val evA) ?_
    refine w_nil ?_
    repeat refine s_seq ?_
    refine s_region ?_
    refine w_pv rfl dC (want_none rfl) (p_val evA) ?_
    refine w_rd rfl dC (want_none rfl) (r_eql rfl evA evA gdA eqA rfl) ?_
    refine w_nil ?_
    repeat refine s_seq ?_
    refine s_cond (t := false) slA ?_
    repeat refine s_seq ?_
    refine s_skip ?_
    repeat refine s_seq ?_
    refine s_region ?_
    refine w_al rfl dC (want_none rfl) (a_buildSlice0 rfl Try.underlying28 kR) ?_
    intro b5 hb5
    refine w_pv rfl dC (want_none rfl) (p_val evA) ?_
    have hle5 := Heap.le_set (.cells #[] 3 (0, 0)) hb5; refine w_ac rfl dC (want_none rfl) (s_append (sz := 1) rfl Try.underlying28 Try.underlying28 kR evA evA (.at_ (n := 0) (c := 0) (cs := []) (Heap.set_same _ _ _) rfl (Nat.le_refl _) (by simp) (by simp)) (x.le hle5) h1 (by omega) ?_); intro v' h2 own grew
    refine w_pv rfl dC (want_none rfl) (p_val evA) ?_
    refine w_nil ?_
    have hle : h.le h2 := fun k o e => grew.same k o (hle5 k o e) fun e1 => by
      have : k = b5 := by simpa [blockOf] using e1
      rw [this, hb5] at e; cases e
    refine s_ret ⟨_, res_one rfl rfl, hle, by simp only [pval, ev, upd, binVal, intBin, Option.map_some, ↓reduceIte, reduceCtorEq, Nat.reduceEqDiff, Nat.reduceBEq, List.map_toArray, List.map_cons, List.map_nil, cond_true, cond_false, decide_true, decide_false, Bool.not_true, Bool.not_false, Bool.true_and, Bool.false_and, Bool.and_true, Bool.and_false, beq_self_eq_true, bne_self_eq_false, List.getElem_toArray, List.getElem_cons_succ, List.getElem_cons_zero, *]; simpa using own, fun b e => ?_⟩
    simp only [pval, ev, upd, binVal, intBin, Option.map_some, ↓reduceIte, reduceCtorEq, Nat.reduceEqDiff, Nat.reduceBEq, List.map_toArray, List.map_cons, List.map_nil, cond_true, cond_false, decide_true, decide_false, Bool.not_true, Bool.not_false, Bool.true_and, Bool.false_and, Bool.and_true, Bool.and_false, beq_self_eq_true, bne_self_eq_false, List.getElem_toArray, List.getElem_cons_succ, List.getElem_cons_zero, *] at e
    rcases grew.blk with e1 | ⟨b', e1, e2⟩
    · rw [e] at e1; simp only [blockOf, Option.some.injEq] at e1; rw [e1]; exact hb5
    · rw [e] at e1; cases e1
      cases e3 : h b with
      | none => rfl
      | some o => rw [hle5 b o e3] at e2; cases e2
theorem len_ok {h : Heap} {D : Nat → Prop} {p : Nat} {ps : Puts} (t : TrieAt h D p ps) :
    SCalls Try.prog 17 #[.pointer (some ⟨p, 0, none⟩)] h (fun r h' => h' = h ∧ ∃ l, CntOk ps l ∧ r = .int .i64 (l.length : Nat)) := by
  refine s_enter Try.func17 rfl (by rw [Try.ntmps17]; simp) ?_
  rw [Try.ntmps17]
  generalize hT : T0 #[.pointer (some ⟨p, 0, none⟩)] = T
  have h0 : T 0 = .pointer (some ⟨p, 0, none⟩) := by rw [← hT]; rfl
  clear hT
  obtain ⟨S, l, th, cn, rfl⟩ := t.out
  obtain ⟨full, ty, hp, h3, _, _, _, hm⟩ := th.node [] p th.root
  replace hm := hm rfl
  rcases th.map with ⟨hmv, hl⟩ | ⟨mb, hmv, hrole, him⟩
  · rw [hmv] at hm
    have hm' : full[0 + 3]? = some (.map none) := hm
    repeat refine s_seq ?_
    refine s_region ?_
    refine w_pv rfl dC (want_none rfl) (p_val evA) ?_
    refine w_nil ?_
    repeat refine s_seq ?_
    refine s_region ?_
    refine w_pv rfl dC (want_none rfl) (p_val evA) ?_
    refine w_pv rfl dC (want_none rfl) (p_val evA) ?_
    refine w_pv rfl dC (want_none rfl) (p_fieldAddr (k := 3) rfl evA kR) ?_
    refine w_rd rfl dC (want_none rfl) (r_load1 rfl Try.underlying31 rfl evA hpA ceA) ?_
    refine w_rd rfl dC (want_none rfl) (r_len_map_nil rfl Try.underlying31 evA) ?_
    refine w_pv rfl dC (want_none rfl) (p_val evA) ?_
    refine w_nil ?_
    exact s_ret ⟨_, res_one rfl rfl, rfl, l, cn, by simp only [pval, ev, upd, binVal, intBin, Option.map_some, ↓reduceIte, reduceCtorEq, Nat.reduceEqDiff, Nat.reduceBEq, List.map_toArray, List.map_cons, List.map_nil, cond_true, cond_false, decide_true, decide_false, Bool.not_true, Bool.not_false, Bool.true_and, Bool.false_and, Bool.and_true, Bool.and_false, beq_self_eq_true, bne_self_eq_false, List.getElem_toArray, List.getElem_cons_succ, List.getElem_cons_zero, hl]; rfl⟩
  · rw [hmv] at hm
    have hm' : full[0 + 3]? = some (.map (some mb)) := hm
    obtain ⟨es, cl, hes, hrep, _⟩ := him.out
    have hll := es_len hrep
    repeat refine s_seq ?_
    refine s_region ?_
    refine w_pv rfl dC (want_none rfl) (p_val evA) ?_
    refine w_nil ?_
    repeat refine s_seq ?_
    refine s_region ?_
    refine w_pv rfl dC (want_none rfl) (p_val evA) ?_
    refine w_pv rfl dC (want_none rfl) (p_val evA) ?_
    refine w_pv rfl dC (want_none rfl) (p_fieldAddr (k := 3) rfl evA kR) ?_
    refine w_rd rfl dC (want_none rfl) (r_load1 rfl Try.underlying31 rfl evA hpA ceA) ?_
    refine w_rd rfl dC (want_none rfl) (r_len_map rfl Try.underlying31 evA hes) ?_
    refine w_pv rfl dC (want_none rfl) (p_val evA) ?_
    refine w_nil ?_
    exact s_ret ⟨_, res_one rfl rfl, rfl, l, cn, by simp only [pval, ev, upd, binVal, intBin, Option.map_some, ↓reduceIte, reduceCtorEq, Nat.reduceEqDiff, Nat.reduceBEq, List.map_toArray, List.map_cons, List.map_nil, cond_true, cond_false, decide_true, decide_false, Bool.not_true, Bool.not_false, Bool.true_and, Bool.false_and, Bool.and_true, Bool.and_false, beq_self_eq_true, bne_self_eq_false, List.getElem_toArray, List.getElem_cons_succ, List.getElem_cons_zero]; rw [← hll]; simp⟩
/-- The longest of so many first bits of an address at which something stands. -/
def bestOf (nums : List Bool → List Int) (A : Nat) : Nat → Option Nat
  | 0 => none
  | j + 1 => if nums (path A j) ≠ [] then some j else bestOf nums A j
theorem bestOf_lt {nums : List Bool → List Int} {A : Nat} : ∀ {j i : Nat}, bestOf nums A j = some i → i < j ∧ nums (path A i) ≠ []
  | 0, i, h => by cases h
  | j + 1, i, h => by
    unfold bestOf at h
    split at h
    · cases h; exact ⟨by omega, by assumption⟩
    · have := bestOf_lt h; exact ⟨by omega, this.2⟩
theorem bestOf_over {nums : List Bool → List Int} {A : Nat} : ∀ {j k : Nat}, (∀ i, j ≤ i → i < k → nums (path A i) = []) → j ≤ k → bestOf nums A k = bestOf nums A j
  | j, 0, _, h => by rw [show j = 0 by omega]
  | j, k + 1, he, h => by
    by_cases e : j = k + 1
    · rw [e]
    · have h1 := he k (by omega) (by omega)
      have h2 : bestOf nums A (k + 1) = bestOf nums A k := by simp [bestOf, h1]
      rw [h2]
      exact bestOf_over (fun i a b => he i a (by omega)) (by omega)
theorem TrieH.deep {h : Heap} {S : TrieS} {p : Nat} {nums : List Bool → List Int} {l : Cnt} (t : TrieH h S p nums l) {A j : Nat} (e : S.A (path A j) = none) : ∀ i, j ≤ i → S.A (path A i) = none := by
  intro i hi
  induction i with
  | zero => rw [show j = 0 by omega] at e; exact e
  | succ i ih =>
    by_cases h1 : j = i + 1
    · rw [← h1]; exact e
    · have := ih (by omega)
      cases e2 : S.A (path A (i + 1)) with
      | none => rfl
      | some c => exact absurd this (t.closed _ _ _ e2)
theorem Sl.Heap.le_set_of {h h' : Heap} {b : Nat} (l : h.le h') (hb : h b = none) (o : Obj) : h.le (h'.set b o) := fun k x e => by
  have : k ≠ b := fun e1 => by rw [e1, hb] at e; cases e
  rw [Heap.set_other _ _ this]; exact l k x e
theorem Sl.res_cellN {P : Program} {T : Tm} {h : Heap} {a b n : Nat} {ty : TypeId} {cs : Array Value} {e : TypeId} {fz : Nat × Nat} {d : TypeDesc} (hu : P.underlying ty = some d) (hd : (match d with | .struct _ | .array _ _ => true | _ => false) = true) (hT : T a = .pointer (some ⟨b, 0, none⟩)) (hb : h b = some (.cells cs e fz)) (hn : P.cellsOf ty = n) (hs : cs.size = n) : ResOne P T h (.cell a ty) (.agg cs) := by
  refine ⟨⟨none, .load ty (.tmp 0), 0, "", #[], none⟩, .tmp 0, rfl, ?_, _, hT⟩
  have := r_loadN (P := P) (o := ⟨none, .load ty (.tmp 0), 0, "", #[], none⟩) (ρ := fun _ => T a) (h := h) (n := n) rfl hu hd hT hb hn (by omega)
  have e : cs.extract 0 (0 + n) = cs := by rw [Nat.zero_add, ← hs]; exact Array.extract_size
  rwa [e] at this
def bitsV (o : Option Nat) : Int := match o with | none => -1 | some j => (j : Int)
def rowV (S : TrieS) (A : Nat) (o : Option Nat) : Value := match o with | none => .slice none 0 0 | some j => S.row (path A j)
theorem look_ok {h : Heap} {D : Nat → Prop} {p : Nat} {ps : Puts} (A : Nat) (t : TrieAt h D p ps) (hA : A < 4294967296) :
    SCalls Try.prog 15 #[.pointer (some ⟨p, 0, none⟩), .int .u32 A] h (fun r h' => h.le h' ∧ match bestOf (numsOf ps) A 33 with
      | none => r = .tuple #[pfxV 0 0, .slice none 0 0, .bool false]
      | some i => ∃ v, r = .tuple #[pfxV (cut A i : Nat) (i : Nat), v, .bool true] ∧ Own h' 3 1 v (numsOf ps (path A i)).length ((numsOf ps (path A i)).map (.int .i64)) ∧ ∀ b, blockOf v = some b → h b = none) := by
  refine s_enter Try.func15 rfl (by rw [Try.ntmps15]; simp) ?_
  rw [Try.ntmps15]
  generalize hT : T0 #[.pointer (some ⟨p, 0, none⟩), .int .u32 A] = T
  have h0 : T 0 = .pointer (some ⟨p, 0, none⟩) := by rw [← hT]; rfl
  have h1 : T 1 = .int .u32 A := by rw [← hT]; rfl
  clear hT
  obtain ⟨S, l, th, cn, rfl⟩ := t.out
  have few := t.few
  clear t cn
  repeat refine s_seq ?_
  refine s_region ?_
  refine w_al rfl dC (want_none rfl) (a_allocZ (z := .agg #[.int .u32 0, .int .i64 0]) (zs := #[.int .u32 0, .int .i64 0]) rfl kR rfl) ?_
  intro b4 hb4
  refine w_pv rfl dC (want_none rfl) (p_val evA) ?_
  refine w_pv rfl dC (want_none rfl) (p_val evA) ?_
  refine w_nil ?_
  repeat refine s_seq ?_
  refine s_region ?_
  refine w_pv rfl dC (want_none rfl) (p_val evA) ?_
  refine w_pv rfl dC (want_none rfl) (p_val evA) ?_
  refine w_pv rfl dC (want_none rfl) (p_fieldAddr (k := 0) rfl evA kR) ?_
  refine w_pv rfl dC (want_none rfl) (p_val evA) ?_
  refine w_nil ?_
  repeat refine s_seq ?_
  refine s_region ?_
  refine w_pv rfl dC (want_none rfl) (p_val evA) ?_
  refine w_nil ?_
  repeat refine s_seq ?_
  refine s_region ?_
  refine w_pv rfl dC (want_none rfl) (p_val evA) ?_
  refine w_nil ?_
  repeat refine s_seq ?_
  refine s_region ?_
  refine w_pv rfl dC (want_none rfl) (p_val evA) ?_
  refine w_nil ?_
  have hle := Heap.le_set (.cells #[.int .u32 0, .int .i64 0] 37 (0, 0)) hb4
  have hat : (h.set b4 (.cells #[.int .u32 0, .int .i64 0] 37 (0, 0))) b4 = _ := Heap.set_same _ _ _
  replace th := th.le hle
  have hnew : ∀ b, (h.set b4 (.cells #[.int .u32 0, .int .i64 0] 37 (0, 0))) b = none → h b = none := fun b e => by
    cases e1 : h b with
    | none => rfl
    | some o => rw [hle b o e1] at e; cases e
  change SCode _ _ _ _ _ (h.set b4 (.cells #[.int .u32 0, .int .i64 0] 37 (0, 0)))
  generalize (h.set b4 (.cells #[.int .u32 0, .int .i64 0] 37 (0, 0))) = hx at hle hat th hnew ⊢
  refine s_join (fun T h' => h' = hx ∧ T 1 = .int .u32 A ∧ T 4 = .pointer (some ⟨b4, 0, none⟩) ∧ T 8 = .int .i64 (bitsV (bestOf (numsOf ps) A 33)) ∧ T 9 = rowV S A (bestOf (numsOf ps) A 33)) ?_ ?_
  · refine (s_block (s_loop (fun m T h' => ∃ i : Nat, m = 33 - i ∧ i ≤ 32 ∧ h' = hx ∧ T 1 = .int .u32 A ∧ T 4 = .pointer (some ⟨b4, 0, none⟩) ∧ T 7 = ptrTo (S.A (path A i)) ∧ T 8 = .int .i64 (bitsV (bestOf (numsOf ps) A i)) ∧ T 9 = rowV S A (bestOf (numsOf ps) A i) ∧ T 10 = .int .i64 (i : Nat)) (n0 := 33)
      ⟨0, by omega, by omega, rfl, slA, slA, by simp only [pval, ev, upd, binVal, intBin, Option.map_some, ↓reduceIte, reduceCtorEq, Nat.reduceEqDiff, Nat.reduceBEq, List.map_toArray, List.map_cons, List.map_nil, cond_true, cond_false, decide_true, decide_false, Bool.not_true, Bool.not_false, Bool.true_and, Bool.false_and, Bool.and_true, Bool.and_false, beq_self_eq_true, bne_self_eq_false, List.getElem_toArray, List.getElem_cons_succ, List.getElem_cons_zero, *]; rw [show S.A (path A 0) = some p from th.root]; rfl, by simp only [pval, ev, upd, binVal, intBin, Option.map_some, ↓reduceIte, reduceCtorEq, Nat.reduceEqDiff, Nat.reduceBEq, List.map_toArray, List.map_cons, List.map_nil, cond_true, cond_false, decide_true, decide_false, Bool.not_true, Bool.not_false, Bool.true_and, Bool.false_and, Bool.and_true, Bool.and_false, beq_self_eq_true, bne_self_eq_false, List.getElem_toArray, List.getElem_cons_succ, List.getElem_cons_zero, *] <;> rfl, by simp only [pval, ev, upd, binVal, intBin, Option.map_some, ↓reduceIte, reduceCtorEq, Nat.reduceEqDiff, Nat.reduceBEq, List.map_toArray, List.map_cons, List.map_nil, cond_true, cond_false, decide_true, decide_false, Bool.not_true, Bool.not_false, Bool.true_and, Bool.false_and, Bool.and_true, Bool.and_false, beq_self_eq_true, bne_self_eq_false, List.getElem_toArray, List.getElem_cons_succ, List.getElem_cons_zero, *] <;> rfl, by simp only [pval, ev, upd, binVal, intBin, Option.map_some, ↓reduceIte, reduceCtorEq, Nat.reduceEqDiff, Nat.reduceBEq, List.map_toArray, List.map_cons, List.map_nil, cond_true, cond_false, decide_true, decide_false, Bool.not_true, Bool.not_false, Bool.true_and, Bool.false_and, Bool.and_true, Bool.and_false, beq_self_eq_true, bne_self_eq_false, List.getElem_toArray, List.getElem_cons_succ, List.getElem_cons_zero, *] <;> rfl⟩ ?_))
    clear h0 h1 T
    rintro m T h' ⟨i, rfl, hi, rfl, h1, h4, h7, h8, h9, h10⟩
    cases hA' : S.A (path A i) with
    | none =>
      rw [hA'] at h7
      replace h7 : T 7 = .pointer none := h7
      have hbest := bestOf_over (nums := numsOf ps) (A := A) (j := i) (k := 33) (fun k hk _ => th.none_ _ (th.deep hA' k hk)) (by omega)
      repeat refine s_seq ?_
      refine s_region ?_
      refine w_pv rfl dC (want_none rfl) (p_val evA) ?_
      refine w_rd rfl dC (want_none rfl) (r_neq rfl evA evA gdA eqA rfl) ?_
      refine w_nil ?_
      repeat refine s_seq ?_
      refine s_cond (t := false) slA ?_
      repeat refine s_seq ?_
      refine s_exit ?_
      refine ⟨rfl, slA, slA, by rw [hbest]; simp only [pval, ev, upd, binVal, intBin, Option.map_some, ↓reduceIte, reduceCtorEq, Nat.reduceEqDiff, Nat.reduceBEq, List.map_toArray, List.map_cons, List.map_nil, cond_true, cond_false, decide_true, decide_false, Bool.not_true, Bool.not_false, Bool.true_and, Bool.false_and, Bool.and_true, Bool.and_false, beq_self_eq_true, bne_self_eq_false, List.getElem_toArray, List.getElem_cons_succ, List.getElem_cons_zero, *], by rw [hbest]; simp only [pval, ev, upd, binVal, intBin, Option.map_some, ↓reduceIte, reduceCtorEq, Nat.reduceEqDiff, Nat.reduceBEq, List.map_toArray, List.map_cons, List.map_nil, cond_true, cond_false, decide_true, decide_false, Bool.not_true, Bool.not_false, Bool.true_and, Bool.false_and, Bool.and_true, Bool.and_false, beq_self_eq_true, bne_self_eq_false, List.getElem_toArray, List.getElem_cons_succ, List.getElem_cons_zero, *]⟩
    | some b =>
      rw [hA'] at h7
      replace h7 : T 7 = .pointer (some ⟨b, 0, none⟩) := h7
      obtain ⟨full, ty, hb, h3, hf0, hf1, hf2, hf3⟩ := th.node _ _ hA'
      have hrow := th.rown _ _ hA'
      obtain ⟨ra, rc, hrv⟩ := hrow.cells.form
      have hf2' : full[0 + 2]? = some (.slice ra (numsOf ps (path A i)).length rc) := by rw [← hrv]; exact hf2
      have hstep : ∃ v8 v9, v8 = Value.int .i64 (bitsV (bestOf (numsOf ps) A (i + 1))) ∧ v9 = rowV S A (bestOf (numsOf ps) A (i + 1)) := ⟨_, _, rfl, rfl⟩
      repeat refine s_seq ?_
      refine s_region ?_
      refine w_pv rfl dC (want_none rfl) (p_val evA) ?_
      refine w_rd rfl dC (want_none rfl) (r_neq rfl evA evA gdA eqA rfl) ?_
      refine w_nil ?_
      repeat refine s_seq ?_
      refine s_cond (t := true) slA ?_
      repeat refine s_seq ?_
      refine s_skip ?_
      repeat refine s_seq ?_
      refine s_block ?_
      refine s_seq ?_
      refine s_join (fun T h2 => h2 = h' ∧ T 1 = .int .u32 A ∧ T 4 = .pointer (some ⟨b4, 0, none⟩) ∧ T 7 = .pointer (some ⟨b, 0, none⟩) ∧ T 8 = .int .i64 (bitsV (bestOf (numsOf ps) A (i + 1))) ∧ T 9 = rowV S A (bestOf (numsOf ps) A (i + 1)) ∧ T 10 = .int .i64 (i : Nat)) ?_ ?_
      · by_cases hne : numsOf ps (path A i) = []
        · have hbest : bestOf (numsOf ps) A (i + 1) = bestOf (numsOf ps) A i := by simp [bestOf, hne]
          rw [hbest]
          have hgt : decide ((((numsOf ps (path A i)).length : Nat) : Int) > 0) = false := by simp [hne]
          clear hne
          repeat refine s_seq ?_
          refine s_region ?_
          refine w_pv rfl dC (want_none rfl) (p_val evA) ?_
          refine w_pv rfl dC (want_none rfl) (p_val evA) ?_
          refine w_pv rfl dC (want_none rfl) (p_fieldAddr (k := 2) rfl evA kR) ?_
          refine w_rd rfl dC (want_none rfl) (r_load1 rfl Try.underlying28 rfl evA hpA ceA) ?_
          refine w_rd rfl dC (want_none rfl) (r_len_slice rfl Try.underlying28 evA) ?_
          refine w_pv rfl dC (want_none rfl) (p_val evA) ?_
          refine w_nil ?_
          repeat refine s_seq ?_
          refine s_cond (t := false) slA ?_
          repeat refine s_seq ?_
          refine s_skip ?_
          exact ⟨rfl, slA, slA, slA, slA, slA, slA⟩
        · have hbest : bestOf (numsOf ps) A (i + 1) = some i := by simp [bestOf, hne]
          rw [hbest]
          have hgt : decide ((((numsOf ps (path A i)).length : Nat) : Int) > 0) = true := by
            have := List.length_pos_iff.2 hne
            simp; omega
          clear hne
          repeat refine s_seq ?_
          refine s_region ?_
          refine w_pv rfl dC (want_none rfl) (p_val evA) ?_
          refine w_pv rfl dC (want_none rfl) (p_val evA) ?_
          refine w_pv rfl dC (want_none rfl) (p_fieldAddr (k := 2) rfl evA kR) ?_
          refine w_rd rfl dC (want_none rfl) (r_load1 rfl Try.underlying28 rfl evA hpA ceA) ?_
          refine w_rd rfl dC (want_none rfl) (r_len_slice rfl Try.underlying28 evA) ?_
          refine w_pv rfl dC (want_none rfl) (p_val evA) ?_
          refine w_nil ?_
          repeat refine s_seq ?_
          refine s_cond (t := true) slA ?_
          repeat refine s_seq ?_
          refine s_draw [(0, true), (1, true), (2, true), (3, true), (4, true), (5, true), (6, true)] [] [] rfl kR kR ?_
          refine d_pv rfl rfl dC rfl rfl (want_none rfl) (p_val evA) ?_
          refine d_pv rfl rfl dC rfl rfl (want_none rfl) (p_val evA) ?_
          refine d_rd0 rfl rfl dC rfl rfl (want_none rfl) (fun _ => PureOp.read (p_val evA) _) ?_
          refine d_pv rfl rfl dC rfl rfl (want_none rfl) (p_fieldAddr (k := 2) rfl evA kR) ?_
          refine d_rd [_] rfl rfl dC rfl rfl (want_none rfl) (r_load1 rfl Try.underlying28 rfl evA (restr1 hpA) ceA) ?_
          refine d_pv rfl rfl dC rfl rfl (want_none rfl) (p_val evA) ?_
          refine d_pv rfl rfl dC rfl rfl (want_none rfl) (p_val evA) ?_
          refine d_nil ?_
          exact ⟨rfl, slA, slA, slA, by simp only [pval, ev, upd, binVal, intBin, Option.map_some, ↓reduceIte, reduceCtorEq, Nat.reduceEqDiff, Nat.reduceBEq, List.map_toArray, List.map_cons, List.map_nil, cond_true, cond_false, decide_true, decide_false, Bool.not_true, Bool.not_false, Bool.true_and, Bool.false_and, Bool.and_true, Bool.and_false, beq_self_eq_true, bne_self_eq_false, List.getElem_toArray, List.getElem_cons_succ, List.getElem_cons_zero, *, bitsV], by simp only [pval, ev, upd, binVal, intBin, Option.map_some, ↓reduceIte, reduceCtorEq, Nat.reduceEqDiff, Nat.reduceBEq, List.map_toArray, List.map_cons, List.map_nil, cond_true, cond_false, decide_true, decide_false, Bool.not_true, Bool.not_false, Bool.true_and, Bool.false_and, Bool.and_true, Bool.and_false, beq_self_eq_true, bne_self_eq_false, List.getElem_toArray, List.getElem_cons_succ, List.getElem_cons_zero, *, rowV], slA⟩
      · clear h1 h4 h7 h8 h9 h10 T hstep hf2' hrv hrow
        rintro T h2 ⟨rfl, h1, h4, h7, h8, h9, h10⟩
        by_cases h32 : i = 32
        · subst h32
          have e1 : (((32 : Nat) : Int) == 32) = true := by decide
          repeat refine s_seq ?_
          refine s_region ?_
          refine w_pv rfl dC (want_none rfl) (p_val evA) ?_
          refine w_pv rfl dC (want_none rfl) (p_val evA) ?_
          refine w_nil ?_
          repeat refine s_seq ?_
          refine s_cond (t := true) slA ?_
          repeat refine s_seq ?_
          refine s_exit ?_
          exact ⟨rfl, slA, slA, slA, slA⟩
        · have e1 : (((i : Nat) : Int) == 32) = false := by simpa using fun e => h32 (by omega)
          have hw3 : IntKind.i64.wrap ((i : Int) + 1) = ((i + 1 : Nat) : Int) := wrap64_nat _ _ (by omega) (by omega)
          obtain ⟨xi, hxi⟩ : ∃ xi : Nat, xi = (if bitI A i then 1 else 0 : Nat) := ⟨_, rfl⟩
          have hxi' : (if bitI A i then 1 else 0 : Int) = ((xi : Nat) : Int) := by rw [hxi]; split <;> rfl
          have hxt : Int.toNat (xi : Int) = xi := by omega
          have hx2 : (xi : Int) < ((2 : Nat) : Int) := by rw [hxi]; split <;> decide
          have hx0 : (0 : Int) ≤ (xi : Int) := by omega
          have hpn : path A i ++ [bitI A i] = path A (i + 1) := rfl
          have hfx : full[xi]? = some (ptrTo (S.A (path A (i + 1)))) := by
            rw [← hpn, hxi]
            cases hbit : bitI A i with
            | false => exact hf0
            | true => exact hf1
          have hfx' : full[0 + 0 + xi * 1]? = some (ptrTo (S.A (path A (i + 1)))) := by simpa using hfx
          have hi31 : i ≤ 31 := by omega
          clear hxi hfx h32
          repeat refine s_seq ?_
          refine s_region ?_
          refine w_pv rfl dC (want_none rfl) (p_val evA) ?_
          refine w_pv rfl dC (want_none rfl) (p_val evA) ?_
          refine w_nil ?_
          repeat refine s_seq ?_
          refine s_cond (t := false) slA ?_
          repeat refine s_seq ?_
          refine s_skip ?_
          repeat refine s_seq ?_
          refine s_draw [(0, true), (1, true), (2, true), (4, true), (5, true), (3, true), (6, true), (7, true), (8, true)] [] [] rfl kR kR ?_
          refine d_pv rfl rfl dC rfl rfl (want_none rfl) (p_val evA) ?_
          refine d_pv rfl rfl dC rfl rfl (want_none rfl) (p_val evA) ?_
          refine d_pv rfl rfl dC rfl rfl (want_none rfl) (p_val evA) ?_
          refine d_rd0 rfl rfl dC rfl rfl (want_none rfl) (fun _ => PureOp.read (p_val evA) _) ?_
          refine d_pv rfl rfl dC rfl rfl (want_none rfl) (p_fieldAddr (k := 0) rfl evA kR) ?_
          refine d_qac rfl rfl dC (by decide) rfl (want_none rfl) (s_call rfl rfl Try.func44 kR kR evA ?_); refine (bit_ok A i hA (by omega) _).mono ?_; rintro _ h2 ⟨rfl, rfl⟩; refine ⟨(fun _ _ h => h), ?_⟩; rw [hxi']
          refine d_pv rfl rfl dC rfl rfl (want_none rfl) (p_indexAddrA (sz := 1) rfl Try.underlying27 kR kR evA evA hx0 hx2) ?_
          refine d_rd [_] rfl rfl dC rfl rfl (want_none rfl) (r_load1 rfl Try.underlying26 rfl evA (restr1 hpA) ceA) ?_
          refine d_pv rfl rfl dC rfl rfl (want_none rfl) (p_val evA) ?_
          refine d_nil ?_
          repeat refine s_seq ?_
          refine s_region ?_
          refine w_pv rfl dC (want_none rfl) (p_val evA) ?_
          refine w_pv rfl dC (want_none rfl) (p_val evA) ?_
          refine w_pv rfl dC (want_none rfl) (p_val evA) ?_
          refine w_nil ?_
          exact ⟨33 - (i + 1), by omega, i + 1, rfl, by omega, rfl, slA, slA, slA, slA, slA, slA⟩
  · clear h0 h1 T
    rintro T h' ⟨rfl, h1, h4, h8, h9⟩
    cases hbest : bestOf (numsOf ps) A 33 with
    | none =>
      rw [hbest] at h8 h9
      replace h8 : T 8 = .int .i64 (-1) := h8
      have e0 : decide ((-1 : Int) < 0) = true := by decide
      repeat refine s_seq ?_
      refine s_region ?_
      refine w_pv rfl dC (want_none rfl) (p_val evA) ?_
      refine w_pv rfl dC (want_none rfl) (p_val evA) ?_
      refine w_nil ?_
      repeat refine s_seq ?_
      refine s_cond (t := true) slA ?_
      repeat refine s_seq ?_
      refine s_region ?_
      refine w_pv rfl dC (want_none rfl) (p_buildL (places := [(0, 1), (1, 1)]) (z := [.int .u32 0, .int .i64 0]) (cells := [.int .u32 0, .int .i64 0]) rfl evA kR kR (by rfl)) ?_
      refine w_st rfl (want_none rfl) (s_storeN (n := 2) rfl evA evA ocA kR szA kR hpA szA ?_)
      refine w_pv rfl dC (want_none rfl) (p_val evA) ?_
      refine w_pv rfl dC (want_none rfl) (p_val evA) ?_
      refine w_nil ?_
      refine s_ret ⟨_, res_many (rs := [.cell 4 37, .tmp 5, .tmp 6]) rfl (by simp) (.cons (res_cellN Try.underlying37 rfl slA (Heap.set_same _ _ _) kR rfl) (.cons rfl (.cons rfl .nil))), Heap.le_set_of hle hb4 _, rfl⟩
    | some j =>
      rw [hbest] at h8 h9
      replace h8 : T 8 = .int .i64 (j : Nat) := h8
      replace h9 : T 9 = S.row (path A j) := h9
      obtain ⟨hj, hjn⟩ := bestOf_lt hbest
      have hj32 : j ≤ 32 := by omega
      have e0 : decide (((j : Nat) : Int) < 0) = false := decide_eq_false (by omega)
      have hand : IntKind.u32.wrap ((BitVec.ofInt IntKind.u32.bits (A : Int) &&& BitVec.ofInt IntKind.u32.bits (maskN (clip ((j : Nat) : Int)))).toNat : Int) = ((cut A j : Nat) : Int) := by
        rw [clip_of j hj32, maskN_nat j hj32, bv_and A _ hA (maskNat_lt j)]; rfl
      have hrow : ∃ b, S.A (path A j) = some b := by
        cases e : S.A (path A j) with
        | none => exact absurd (th.none_ _ e) hjn
        | some b => exact ⟨b, rfl⟩
      obtain ⟨bj, hbj⟩ := hrow
      have hown := th.rown _ _ hbj
      have hlen := numsOf_len ps (path A j)
      repeat refine s_seq ?_
      refine s_region ?_
      refine w_pv rfl dC (want_none rfl) (p_val evA) ?_
      refine w_pv rfl dC (want_none rfl) (p_val evA) ?_
      refine w_nil ?_
      repeat refine s_seq ?_
      refine s_cond (t := false) slA ?_
      repeat refine s_seq ?_
      refine s_skip ?_
      repeat refine s_seq ?_
      refine s_region ?_
      refine w_pv rfl dC (want_none rfl) (p_val evA) ?_
      refine w_pv rfl dC (want_none rfl) (p_val evA) ?_
      refine w_ac rfl dC (want_none rfl) (s_call rfl rfl Try.func45 kR kR evA ?_); refine (mask_ok _ _).mono ?_; rintro _ h' ⟨rfl, rfl⟩
      refine w_pv rfl dC (want_none rfl) (p_val evA) ?_
      refine w_pv rfl dC (want_none rfl) (p_val evA) ?_
      refine w_pv rfl dC (want_none rfl) (p_buildL (places := [(0, 1), (1, 1)]) (z := [.int .u32 0, .int .i64 0]) (cells := [_, _]) rfl evA kR kR (by rfl)) ?_
      refine w_pv rfl dC (want_none rfl) (p_val evA) ?_
      refine w_ac rfl dC (want_none rfl) (s_call rfl rfl Try.func46 kR kR evA ?_); refine (cloneInts_ok hown.cells (by omega) (by simp [Value.oneCell'])).mono ?_; rintro vr h2 ⟨hle2, hown2, hnew2⟩; have hat2 := hle2 _ _ hat
      refine w_st rfl (want_none rfl) (s_storeN (n := 2) rfl evA evA ocA kR szA kR hpA szA ?_)
      refine w_pv rfl dC (want_none rfl) (p_val evA) ?_
      refine w_pv rfl dC (want_none rfl) (p_val evA) ?_
      refine w_nil ?_
      have hne4 : ∀ b, blockOf vr = some b → b ≠ b4 := fun b e e1 => by
        have := hnew2 b e
        rw [e1, hat] at this; cases this
      refine s_ret ⟨_, res_many (rs := [.cell 4 37, .tmp 5, .tmp 6]) rfl (by simp) (.cons (res_cellN Try.underlying37 rfl slA (Heap.set_same _ _ _) kR rfl) (.cons rfl (.cons rfl .nil))), Heap.le_set_of (Heap.le_trans hle hle2) hb4 _, vr, rfl, hown2.only fun r o hr ho => by rw [Heap.set_other _ _ (hne4 r hr)]; exact ho, fun b e => hnew b (hnew2 b e)⟩
end Go.Proofs.Ytielfejpnkcjbaa
