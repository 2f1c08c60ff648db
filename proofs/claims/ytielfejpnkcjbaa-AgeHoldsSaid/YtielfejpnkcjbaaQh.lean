import Derived.Test.YtielfejpnkcjbaaQh10
import Derived.Test.YtielfejpnkcjbaaRows
/- Things held: the plain law. -/
set_option linter.unusedVariables false
set_option linter.unusedSimpArgs false
namespace Go.Proofs.Ytielfejpnkcjbaa
open Sl
def kHo (i : Nat) : ThK := ((2, (i : Int), 0), (0, 0))
theorem kHo_inj {i j : Nat} (h : kHo i = kHo j) : i = j := by
  unfold kHo at h
  simp only [Prod.mk.injEq] at h
  have := h.1.2.1
  omega
def mHo (c : Int) : MsgA := ⟨0, 0, 0, 0, 0, 0, c, false, []⟩
/-- Things 0 .. n-1 in order; those below i of no age, the others of age a. -/
structure Held (ts : List AT) (n i : Nat) (a : Int) : Prop where
  keys : ts.map AT.key = (List.range n).map kHo
  age : ∀ x ∈ ts, ∀ k, x.key = kHo k → x.age = if k < i then 0 else a
  src : ∀ x ∈ ts, x.msg.srcs = []
theorem Held.len {ts : List AT} {n i : Nat} {a : Int} (h : Held ts n i a) : ts.length = n := by
  have := congrArg List.length h.keys
  simpa using this
theorem Held.nil (a : Int) : Held [] 0 0 a := ⟨rfl, fun x hx => (by cases hx), fun x hx => (by cases hx)⟩
theorem Held.has {ts : List AT} {n i : Nat} {a : Int} (h : Held ts n i a) (k : Nat) : (ts.any fun x => decide (x.key = kHo k)) = decide (k < n) := by
  have h1 : (ts.any fun x => decide (x.key = kHo k)) = (ts.map AT.key).any fun y => decide (y = kHo k) := by rw [List.any_map]; rfl
  rw [h1, h.keys, List.any_map]
  by_cases hk : k < n
  · rw [decide_eq_true hk, List.any_eq_true]
    exact ⟨k, List.mem_range.2 hk, by simp⟩
  · rw [decide_eq_false hk, List.any_eq_false]
    intro j hj
    have := List.mem_range.1 hj
    simp only [Function.comp, decide_eq_true_eq]
    intro e
    have := kHo_inj e
    omega
theorem Held.key {ts : List AT} {n i : Nat} {a : Int} (h : Held ts n i a) {x : AT} (hx : x ∈ ts) : ∃ k, k < n ∧ x.key = kHo k := by
  have : x.key ∈ ts.map AT.key := List.mem_map.2 ⟨x, hx, rfl⟩
  rw [h.keys] at this
  obtain ⟨k, hk, e⟩ := List.mem_map.1 this
  exact ⟨k, List.mem_range.1 hk, e.symm⟩
/-- Heard again. -/
theorem Held.put {ts : List AT} {n i : Nat} {a : Int} (h : Held ts n i a) (hi : i < n) (c : Int) : Held (putT ts (kHo i) (mHo c)) n (i + 1) a := by
  unfold putT
  rw [h.has, if_pos (by simpa using hi)]
  refine ⟨?_, fun x hx k hk => ?_, fun x hx => ?_⟩
  · rw [← h.keys, List.map_map]
    apply List.map_congr_left
    intro x hx
    simp only [Function.comp]
    split
    · rename_i e; exact e.symm
    · rfl
  · obtain ⟨y, hy, rfl⟩ := List.mem_map.1 hx
    split at hk
    · rename_i e
      have := kHo_inj hk
      rw [if_pos e, if_pos (by omega)]
    · rename_i e
      have hne : k ≠ i := fun e1 => e (by rw [hk, e1])
      rw [if_neg e, h.age y hy k hk]
      by_cases h1 : k < i
      · rw [if_pos h1, if_pos (by omega)]
      · rw [if_neg h1, if_neg (by omega)]
  · obtain ⟨y, hy, rfl⟩ := List.mem_map.1 hx
    split
    · rfl
    · exact h.src y hy
/-- Heard for the first time. -/
theorem Held.new {ts : List AT} {n : Nat} {a : Int} (h : Held ts n n a) (c : Int) : Held (putT ts (kHo n) (mHo c)) (n + 1) (n + 1) a := by
  unfold putT
  rw [h.has, if_neg (by simp)]
  refine ⟨by rw [List.map_append, h.keys, List.range_succ, List.map_append]; rfl, fun x hx k hk => ?_, fun x hx => ?_⟩
  · rcases List.mem_append.1 hx with hx | hx
    · obtain ⟨j, hj, e⟩ := h.key hx
      have e2 := h.age x hx j e
      have := kHo_inj (hk.symm.trans e)
      rw [e2, if_pos hj, if_pos (by omega)]
    · rw [List.mem_singleton.1 hx] at hk ⊢
      have := kHo_inj hk
      rw [if_pos (by omega)]
  · rcases List.mem_append.1 hx with hx | hx
    · exact h.src x hx
    · rw [List.mem_singleton.1 hx]; rfl
/-- A tick. -/
theorem Held.tick {ts : List AT} {n : Nat} {a : Int} (h : Held ts n 0 a) : (a + 1 ≤ 3 → Held (ts.filterMap tickT) n 0 (a + 1)) ∧ (3 < a + 1 → ts.filterMap tickT = []) := by
  have hall : ∀ x ∈ ts, x.age = a := fun x hx => by
    obtain ⟨k, _, e⟩ := h.key hx
    have := h.age x hx k e
    simpa using this
  refine ⟨fun ha => ?_, fun ha => ?_⟩
  · have e : ts.filterMap tickT = ts.map fun x => { x with age := x.age + 1 } := by
      clear h
      induction ts with
      | nil => rfl
      | cons x t ih =>
        have hx := hall x List.mem_cons_self
        have e1 : tickT x = some { x with age := x.age + 1 } := by unfold tickT; rw [if_neg (by rw [hx]; omega)]
        rw [List.filterMap_cons, e1, List.map_cons, ih fun y hy => hall y (List.mem_cons_of_mem _ hy)]
    rw [e]
    refine ⟨by rw [List.map_map, ← h.keys]; rfl, fun x hx k hk => ?_, fun x hx => ?_⟩
    · obtain ⟨y, hy, rfl⟩ := List.mem_map.1 hx
      simp [hall y hy]
    · obtain ⟨y, hy, rfl⟩ := List.mem_map.1 hx
      exact h.src y hy
  · rw [List.filterMap_eq_nil_iff]
    intro x hx
    unfold tickT
    rw [if_pos (by rw [hall x hx]; omega)]
end Go.Proofs.Ytielfejpnkcjbaa

/- Calls with objects under a guard; a cell told as a foreign object. -/
set_option linter.unusedVariables false
set_option linter.unusedSimpArgs false
namespace Go.Proofs.Ytielfejpnkcjbaa.Ab
open Go.Proofs.Ytielfejpnkcjbaa.Sl
section
variable {P : Program} {N : Nat} {ops : Array Oper} {h0 : Gd} {Qr : Tm → Heap → Prop} {s : St} {az : List AO} {Q : Exit → Tm → Heap → Prop} {T : AT} {σ : AS} {r : List Code}
/-- A cell of one's own is told as a foreign object. -/
theorem a_toext (id : Nat) {t : TypeId} {cs : List AV} (hσ : lookS σ id = some (.box t cs)) (Φ : (Nat → Prop) → Value → Heap → Prop) (hΦ : ∀ (β : Nat → Value) (hF h : Heap) (b : Nat) (vs : List Value), h b = some (.cells vs.toArray t (0, 0)) → AReps β hF cs vs → Φ (fun x => x = b) (.pointer (some ⟨b, 0, none⟩)) h)
    (k : ∀ D, AC P N h0 r Q T (setS σ id (.ext D (Φ D)))) : AC P N h0 r Q T σ := by
  intro β hF h Tc sem
  have hm := lookS_mem hσ
  obtain ⟨b, vs, h1, h2, h3⟩ := sem.ok.ok _ hm
  have hbase : baseOf (β id) = some b := by rw [h1]; rfl
  have hfp : ∀ x, x = b → fpOf (β id) (.box t cs) x := fun x e => by simp only [fpOf]; rw [hbase, e]
  refine k (fun x => x = b) β hF h Tc ⟨⟨sem.ok.le0, sem.ok.le, fun e he => ?_, fun e he x hx => ?_, fun e he e' he' x hne hx => ?_, sem.ok.fix, by rw [setS_keys]; exact sem.ok.nd⟩, sem.t, sem.l, sem.g⟩
  · rcases setS_mem sem.ok.nd e he with rfl | ⟨he, hne⟩
    · refine ⟨fun x hx => ?_, fun x hx => by rw [hx, h2]; simp, fun h' e => ?_⟩
      · rw [hbase] at hx; cases hx; rfl
      · simp only [h1]
        exact hΦ β hF h' b vs (by rw [e b rfl]; exact h2) h3
    · exact sem.ok.ok e he
  · rcases setS_mem sem.ok.nd e he with rfl | ⟨he, hne⟩
    · exact sem.ok.out _ hm x (hfp x hx)
    · exact sem.ok.out e he x hx
  · rcases setS_mem sem.ok.nd e he with rfl | ⟨he, hn1⟩ <;> rcases setS_mem sem.ok.nd e' he' with rfl | ⟨he', hn2⟩
    · exact absurd rfl hne
    · exact sem.ok.sep _ hm e' he' x hne (hfp x hx)
    · exact fun h2 => sem.ok.sep e he _ hm x hne hx (hfp x h2)
    · exact sem.ok.sep e he e' he' x hne hx
theorem targetG_okc {β : Nat → Value} {hF h : Heap} {Tc : Tm} {L : AL} (sm : Sem h0 β hF h Tc T L σ) {ch : List (Nat × Bool)} (hch : ∀ x ∈ ch, Tc x.1 = .bool x.2) : ∀ {l : List Operand} {xs : List AV}, targetG (opd L T ch) l = some xs → AReps β hF xs (l.map (ev Tc))
  | [], xs, e => by cases e; exact ⟨rfl, fun j c v a => by simp at a⟩
  | x :: l, xs, e => by
    unfold targetG at e
    split at e
    · cases e
    · rename_i v hne hv
      split at e
      · rename_i vs hvs
        cases e
        have h1 := opd_ok sm hch hv
        have h2 := targetG_okc sm hch hvs
        refine ⟨by simp [h2.1], fun j c u a b => ?_⟩
        cases j with
        | zero => cases a; cases b; exact h1
        | succ j => exact h2.2 j c u (by simpa using a) (by simpa using b)
      · cases e
    · cases e
/-- Under a guard, in a region in its order: a call that hands the objects back as they were. -/
theorem reg_callGg {d t : Nat} {p : Bool} {k : K} {q : Bool} {f : FuncId} {ops' : List Operand} {xs args : List AV} {σi : AS} {Y : Type} {Pr : Y → Prop} {σo : Y → AS} {res : Y → FV} (ids : List Nat) (c : GCall P f args σi Y Pr σo res) (hy0 : ∃ y, Pr y) (en : fname k = some (f, ops')) (e : targetG (opd s.L s.T (chain s.L 3 (some (t, p)))) ops' = some xs) (cv : AConv xs (renC ids args)) (hc : okCall P f = true)
    (hl : handed ids s.σ σi) (hnd : (σi.map fun e => renN ids e.1).Nodup) (hin : (lookL s.L t).isSome = true) (hσ : ∀ y, setAll ids s.σ (σo y) = s.σ)
    (r : ∀ y, Pr y → RegN P N ops h0 Qr az ⟨s.T, (d, some (t, p), .fz (res y)) :: s.L, s.σ, s.rs⟩) : RegN P N ops h0 Qr (⟨some d, some (t, p), k, q⟩ :: az) s := by
  intro os hm hok' β hF h Tc sem nd
  cases os with
  | nil => simp at hm
  | cons o os =>
    simp only [List.map_cons, List.cons.injEq] at hm
    simp only [List.all_cons, Bool.and_eq_true] at hok'
    have f' := fit_of hm.1 hok'.1
    refine ⟨f'.lt, ?_⟩
    obtain ⟨w1, w2⟩ := f'.want_some (Tc := Tc) rfl
    have hgin : ∀ t' p', some (t, p) = some (t', p') → ∃ e ∈ s.L, e.1 = t' := fun t' p' e1 => by
      cases e1
      obtain ⟨x, hx⟩ := Option.isSome_iff_exists.1 hin
      exact ⟨_, lookL_mem hx, rfl⟩
    rcases w2 with w2 | w2
    · have ht := w1.1 w2
      rw [w2]
      obtain ⟨fn, h1, h2, h3⟩ := okCall_spec hc
      cases k <;> simp only [fname, reduceCtorEq] at en
      rename_i f0 args0 tys
      cases en
      have hch := chain_ok sem 3 (some (t, p)) (fun a b e => by cases e; exact ht)
      refine (s_call f'.op rfl h1 h2 h3 (by simp) (g_ac sem.ok (handed_mem hl) hnd (cv _ _ _ (targetG_okc sem hch e)) c)).mono fun v h' ⟨y, hy, ⟨hF', ok', l, rv⟩, _⟩ => ?_
      rw [hσ y] at ok'
      have sem' := sem.turn ok' l (fun _ _ _ _ => rfl) (fun _ _ _ _ => rfl)
      obtain ⟨nd', hne⟩ := nod_step nd rfl (some (t, p)) (.fz (res y))
      rw [put_some f'.dst]
      exact r y hy os hm.2 hok'.2 _ _ _ _ (sem'.put hne hgin (gok_in rv (fun t' p' e => by cases e; exact ht))) nd'
    · have ht : ¬ Tc t = .bool p := fun e => by rw [w1.2 e] at w2; cases w2
      obtain ⟨y, hy⟩ := hy0
      rw [w2]
      simp only [Bool.false_eq_true, if_false]
      obtain ⟨nd', hne⟩ := nod_step nd rfl (some (t, p)) (.fz (res y))
      rw [put_some f'.dst]
      exact r y hy os hm.2 hok'.2 _ _ _ _ (sem.put hne hgin (gok_skip ht)) nd'
theorem r_callGg {d t : Nat} {p : Bool} {k : K} {q : Bool} {f : FuncId} {ops' : List Operand} {xs args : List AV} {σi : AS} {Y : Type} {Pr : Y → Prop} {σo : Y → AS} {res : Y → FV} (ids : List Nat) (c : GCall P f args σi Y Pr σo res) (hy0 : ∃ y, Pr y) (r : ∀ y, Pr y → Reg P N ops none h0 Qr az ⟨s.T, (d, some (t, p), .fz (res y)) :: s.L, s.σ, s.rs⟩)
    (en : fname k = some (f, ops') := by rfl) (e : targetG (opd s.L s.T (chain s.L 3 (some (t, p)))) ops' = some xs := by simp only [targetG, run, step1, isA, stepP, stepA, pv, pa, gob, opd, lookV, lookL, lookT, lookS, chain, inCh, addrd, hits, pgT, pgL, addL, pT, pL, pS, pO, pC, pA, ibin, sint, intBin, feq, fc_int, fc_bool, fc_str, fc_slice, fc_ptr, fc_map, fc_nif, fc_nfn, fc_agg, fc_of, fc_L, fc_sl, fc_fp, fc_ifc, fc_fn, fillF, ofzs, ofzp, unfz, rowsP, srcRows_of, srcRows_L, srcRows_os, srcRows_nil, asSl_of, asSl_L, asSl_sl, asSl_nil, setS, okNew, nmT, nmL, nmS, nmC, nmNe, OO.cells, absC, bnd, target, resV, resVs, List.set_cons_zero, List.set_cons_succ, ↓reduceIte, reduceCtorEq, Nat.reduceEqDiff, Nat.reduceBEq, Nat.reduceAdd, Nat.reduceMul, Nat.reduceLT, Nat.reduceLeDiff, Nat.reduceSub, Option.map_some, List.map_cons, List.map_nil, List.drop_succ_cons, List.drop_zero, List.drop_nil, List.take_succ_cons, List.take_zero, List.take_nil, List.cons_append, List.nil_append, List.append_nil, List.any_cons, List.any_nil, List.contains_cons, List.contains_nil, List.getElem?_cons_zero, List.getElem?_cons_succ, List.length_cons, List.length_nil, cond_true, cond_false, decide_true, decide_false, Bool.not_true, Bool.not_false, Bool.true_and, Bool.false_and, Bool.and_true, Bool.and_false, Bool.or_true, Bool.true_or, Bool.or_false, Bool.false_or, beq_self_eq_true, Bool.false_eq_true, pick_and, pick_or, Int.toNat_natCast, Int.toNat_zero, true_and, and_true, forall_const, implies_true, Nat.zero_add, Nat.add_zero, and_self, *] <;> exact rfl) (cv : AConv xs (renC ids args) := by exact AConv.rfl') (hc : okCall P f = true := by kernel_rfl)
    (hl : handed ids s.σ σi := by simp only [handed, renN, renO, renC, renA, List.getD_cons_zero, List.getD_cons_succ, run, step1, isA, stepP, stepA, pv, pa, gob, opd, lookV, lookL, lookT, lookS, chain, inCh, addrd, hits, pgT, pgL, addL, pT, pL, pS, pO, pC, pA, ibin, sint, intBin, feq, fc_int, fc_bool, fc_str, fc_slice, fc_ptr, fc_map, fc_nif, fc_nfn, fc_agg, fc_of, fc_L, fc_sl, fc_fp, fc_ifc, fc_fn, fillF, ofzs, ofzp, unfz, rowsP, srcRows_of, srcRows_L, srcRows_os, srcRows_nil, asSl_of, asSl_L, asSl_sl, asSl_nil, setS, okNew, nmT, nmL, nmS, nmC, nmNe, OO.cells, absC, bnd, target, resV, resVs, List.set_cons_zero, List.set_cons_succ, ↓reduceIte, reduceCtorEq, Nat.reduceEqDiff, Nat.reduceBEq, Nat.reduceAdd, Nat.reduceMul, Nat.reduceLT, Nat.reduceLeDiff, Nat.reduceSub, Option.map_some, List.map_cons, List.map_nil, List.drop_succ_cons, List.drop_zero, List.drop_nil, List.take_succ_cons, List.take_zero, List.take_nil, List.cons_append, List.nil_append, List.append_nil, List.any_cons, List.any_nil, List.contains_cons, List.contains_nil, List.getElem?_cons_zero, List.getElem?_cons_succ, List.length_cons, List.length_nil, cond_true, cond_false, decide_true, decide_false, Bool.not_true, Bool.not_false, Bool.true_and, Bool.false_and, Bool.and_true, Bool.and_false, Bool.or_true, Bool.true_or, Bool.or_false, Bool.false_or, beq_self_eq_true, Bool.false_eq_true, pick_and, pick_or, Int.toNat_natCast, Int.toNat_zero, true_and, and_true, forall_const, implies_true, Nat.zero_add, Nat.add_zero, and_self, *]) (hnd : (σi.map fun e => renN ids e.1).Nodup := by simp [renN]) (hin : (lookL s.L t).isSome = true := by simp only [run, step1, isA, stepP, stepA, pv, pa, gob, opd, lookV, lookL, lookT, lookS, chain, inCh, addrd, hits, pgT, pgL, addL, pT, pL, pS, pO, pC, pA, ibin, sint, intBin, feq, fc_int, fc_bool, fc_str, fc_slice, fc_ptr, fc_map, fc_nif, fc_nfn, fc_agg, fc_of, fc_L, fc_sl, fc_fp, fc_ifc, fc_fn, fillF, ofzs, ofzp, unfz, rowsP, srcRows_of, srcRows_L, srcRows_os, srcRows_nil, asSl_of, asSl_L, asSl_sl, asSl_nil, setS, okNew, nmT, nmL, nmS, nmC, nmNe, OO.cells, absC, bnd, target, resV, resVs, List.set_cons_zero, List.set_cons_succ, ↓reduceIte, reduceCtorEq, Nat.reduceEqDiff, Nat.reduceBEq, Nat.reduceAdd, Nat.reduceMul, Nat.reduceLT, Nat.reduceLeDiff, Nat.reduceSub, Option.map_some, List.map_cons, List.map_nil, List.drop_succ_cons, List.drop_zero, List.drop_nil, List.take_succ_cons, List.take_zero, List.take_nil, List.cons_append, List.nil_append, List.append_nil, List.any_cons, List.any_nil, List.contains_cons, List.contains_nil, List.getElem?_cons_zero, List.getElem?_cons_succ, List.length_cons, List.length_nil, cond_true, cond_false, decide_true, decide_false, Bool.not_true, Bool.not_false, Bool.true_and, Bool.false_and, Bool.and_true, Bool.and_false, Bool.or_true, Bool.true_or, Bool.or_false, Bool.false_or, beq_self_eq_true, Bool.false_eq_true, pick_and, pick_or, Int.toNat_natCast, Int.toNat_zero, true_and, and_true, forall_const, implies_true, Nat.zero_add, Nat.add_zero, and_self, Option.isSome_some])
    (hσ : ∀ y, setAll ids s.σ (σo y) = s.σ := by intro y; simp only [setAll, renN, renO, renC, renA, List.getD_cons_zero, List.getD_cons_succ, run, step1, isA, stepP, stepA, pv, pa, gob, opd, lookV, lookL, lookT, lookS, chain, inCh, addrd, hits, pgT, pgL, addL, pT, pL, pS, pO, pC, pA, ibin, sint, intBin, feq, fc_int, fc_bool, fc_str, fc_slice, fc_ptr, fc_map, fc_nif, fc_nfn, fc_agg, fc_of, fc_L, fc_sl, fc_fp, fc_ifc, fc_fn, fillF, ofzs, ofzp, unfz, rowsP, srcRows_of, srcRows_L, srcRows_os, srcRows_nil, asSl_of, asSl_L, asSl_sl, asSl_nil, setS, okNew, nmT, nmL, nmS, nmC, nmNe, OO.cells, absC, bnd, target, resV, resVs, List.set_cons_zero, List.set_cons_succ, ↓reduceIte, reduceCtorEq, Nat.reduceEqDiff, Nat.reduceBEq, Nat.reduceAdd, Nat.reduceMul, Nat.reduceLT, Nat.reduceLeDiff, Nat.reduceSub, Option.map_some, List.map_cons, List.map_nil, List.drop_succ_cons, List.drop_zero, List.drop_nil, List.take_succ_cons, List.take_zero, List.take_nil, List.cons_append, List.nil_append, List.append_nil, List.any_cons, List.any_nil, List.contains_cons, List.contains_nil, List.getElem?_cons_zero, List.getElem?_cons_succ, List.length_cons, List.length_nil, cond_true, cond_false, decide_true, decide_false, Bool.not_true, Bool.not_false, Bool.true_and, Bool.false_and, Bool.and_true, Bool.and_false, Bool.or_true, Bool.true_or, Bool.or_false, Bool.false_or, beq_self_eq_true, Bool.false_eq_true, pick_and, pick_or, Int.toNat_natCast, Int.toNat_zero, true_and, and_true, forall_const, implies_true, Nat.zero_add, Nat.add_zero, and_self, *]) : Reg P N ops none h0 Qr (⟨some d, some (t, p), k, q⟩ :: az) s := reg_callGg ids c hy0 en e cv hc hl hnd hin hσ r
end
end Go.Proofs.Ytielfejpnkcjbaa.Ab

/- AgeHolds: the walk. -/
set_option linter.unusedVariables false
set_option linter.unusedSimpArgs false
namespace Go.Proofs.Ytielfejpnkcjbaa
open Sl Ab
theorem number_p (n b : Int) (hb : 0 < b) (hb' : b ≤ 4611686018427387904) : PureCall Try.prog 12 [vI n, vI b] (vI (n % b)) := by
  intro h vs r
  obtain ⟨v1, vs, rfl, r1, r⟩ := r.uncons
  obtain ⟨v2, vs, rfl, r2, r⟩ := r.uncons
  have : vs = [] := List.length_eq_zero_iff.1 r.1
  subst this
  cases frep_val r1
  cases frep_val r2
  refine (number_ok n b hb hb' h).mono ?_
  rintro r h' ⟨rfl, rfl⟩
  exact ⟨Heap.le_refl _, .val _⟩
theorem first15_p : PureCall Try.prog 20 [] (vB true) := by
  intro h vs r
  have : vs = [] := List.length_eq_zero_iff.1 r.1
  subst this
  refine (first15_ok h).mono ?_
  rintro r h' ⟨hle, rfl⟩
  exact ⟨hle, .val _⟩
theorem tbO_new (β : Nat → Value) (hF h : Heap) (b : Nat) (vs : List Value) (hb : h b = some (.cells vs.toArray 60 (0, 0))) (r : AReps β hF [.fz (.val (.map none))] vs) : ∃ p, (Value.pointer (some ⟨b, 0, none⟩)) = .pointer (some ⟨p, 0, none⟩) ∧ TableAt h (fun x => x = b) p [] := by
  have h1 := r.2 0 _ (vs[0]'(by rw [r.1]; decide)) rfl (List.getElem?_eq_getElem _)
  have hv := fz_val h1
  have : vs = [.map none] := by
    obtain ⟨v, rfl⟩ : ∃ v, vs = [v] := List.length_eq_one_iff.1 (by rw [r.1]; rfl)
    simp at hv; rw [hv]
  subst this
  exact ⟨b, rfl, ⟨_, _, hb, rfl, .inl ⟨rfl, rfl⟩⟩, fun x hx => by rw [hx, hb]; simp⟩
theorem msg_conv (c : Int) : ∀ h v, FRep h (.agg [vI 0, vU 0, vU 0, vU 0, vU 0, vI 0, vI c, vB false, vN]) v → FRep h (.agg (encMs (mHo c))) v := by
  intro h v r
  obtain ⟨vs, rfl, hl, hr⟩ := frep_agg r
  refine .agg hl fun j x u e1 e2 => ?_
  match j, e1 with
  | 8, e1 =>
    cases e1
    have := frep_val (hr 8 _ u rfl e2)
    rw [this]
    exact .sl0 _ _ _
  | 0, e1 | 1, e1 | 2, e1 | 3, e1 | 4, e1 | 5, e1 | 6, e1 | 7, e1 => exact hr _ x u e1 e2
theorem Held.zero {ts : List AT} {n : Nat} (h : Held ts n n 0) : Held ts n 0 0 := ⟨h.keys, fun x hx k hk => by have := h.age x hx k hk; simpa using this, h.src⟩
theorem tick_held {ts ts1 : List AT} {n old : Nat} (hH : old ≤ 3 → Held ts n 0 old) (hE : 3 < old → ts = []) (e : ts.filterMap tickT = ts1) : (old + 1 ≤ 3 → Held ts1 n 0 ((old + 1 : Nat) : Int)) ∧ (3 < old + 1 → ts1 = []) := by
  subst e
  refine ⟨fun h => ?_, fun h => ?_⟩
  · have := (hH (by omega)).tick.1 (by omega)
    exact this
  · rcases Nat.lt_or_ge 3 old with h2 | h2
    · rw [hE h2]; rfl
    · exact (hH h2).tick.2 (by omega)
theorem few_held {ts : List AT} {n old : Nat} (hH : old ≤ 3 → Held ts n 0 old) (hE : 3 < old → ts = []) (hn : n ≤ 10) : ts.length ≤ 10 := by
  rcases Nat.lt_or_ge 3 old with h | h
  · rw [hE h]; exact Nat.zero_le _
  · rw [(hH h).len]; exact hn
theorem no5 {ts : List AT} {n o : Nat} (hH : o ≤ 3 → Held ts n 0 o) (hE : 3 < o → ts = []) (hn : 1 ≤ n) (hb : ((!(((ts.length : Nat) : Int) == (n : Int)) == decide ((o : Int) ≤ 3)) || decide ((o : Int) > 3) && ((ts.length : Nat) : Int) != 0) = true) : False := by
  rcases Nat.lt_or_ge 3 o with h | h
  · rw [hE h] at hb
    have h1 : ¬ (o : Int) ≤ 3 := by omega
    have h2 : ¬ ((0 : Nat) : Int) = (n : Int) := by omega
    simp [h1] at hb
    omega
  · rw [(hH h).len] at hb
    have h1 : (o : Int) ≤ 3 := by omega
    simp [h1] at hb
    omega
theorem src_held {ts : List AT} {n old : Nat} (hH : old ≤ 3 → Held ts n 0 old) (hE : 3 < old → ts = []) : ∀ x ∈ ts, x.msg.srcs = [] := by
  rcases Nat.lt_or_ge 3 old with h | h
  · rw [hE h]; intro x hx; cases hx
  · exact (hH h).src
theorem all_some (ts : List AT) (kind : Int) : ∃ l, AllAns ts kind l := by
  have h := Go.Sort.insertionSort_holds (lt := ltOf cmpA) swoA (ts.filter (ofKind kind)).toArray 0 (ts.filter (ofKind kind)).toArray.size (Nat.zero_le _) (Nat.le_refl _)
  exact ⟨_, ans_of (.refl _) h⟩
theorem end_held {ts l1 l2 : List AT} {n old : Nat} (hH : old ≤ 3 → Held ts n 0 old) (hE : 3 < old → ts = []) (h1 : AllAns ts 1 l1) (h2 : AllAns ts 2 l2) : vB (((l1.length : Nat) : Int) == 0 && ((l2.length : Nat) : Int) == ((ts.length : Nat) : Int)) = vB true := by
  have hk : ∀ x ∈ ts, x.key.1.1 = 2 := by
    rcases Nat.lt_or_ge 3 old with h | h
    · rw [hE h]; intro x hx; cases hx
    · intro x hx
      obtain ⟨k, _, e⟩ := (hH h).key hx
      rw [e]; rfl
  have e1 : ts.filter (ofKind 1) = [] := List.filter_eq_nil_iff.2 fun x hx => by simp [ofKind, hk x hx]
  have e2 : ts.filter (ofKind 2) = ts := List.filter_eq_self.2 fun x hx => by simp [ofKind, hk x hx]
  have l1e := h1.1.length_eq
  have l2e := h2.1.length_eq
  rw [e1] at l1e
  rw [e2] at l2e
  rw [l1e, l2e]; simp
theorem no6 {ts : List AT} {n o : Nat} {k' : ThK} {ag : Int} {mg : MsgA} {is : Bool} (hH : o ≤ 3 → Held ts n 0 o) (hE : 3 < o → ts = []) (hn : 1 ≤ n) (hg : GetAns ts (kHo 0) k' ag mg is) (hb : ((!(is == decide ((o : Int) ≤ 3))) || is && ag != (o : Int)) = true) : False := by
  rcases hg with ⟨rfl, _, x, hx, hk, rfl, _⟩ | ⟨rfl, _, _, _, hno⟩
  · have h : o ≤ 3 := by
      rcases Nat.lt_or_ge 3 o with h | h
      · rw [hE h] at hx; cases hx
      · exact h
    have h1 : (o : Int) ≤ 3 := by omega
    have h2 := (hH h).age x hx 0 hk
    simp at h2
    simp [h1, h2] at hb
  · have h : 3 < o := by
      rcases Nat.lt_or_ge 3 o with h | h
      · exact h
      · have h3 := (hH h).has 0
        rw [decide_eq_true (by omega), List.any_eq_true] at h3
        obtain ⟨x, hx, e⟩ := h3
        exact absurd (by simpa using e) (hno x hx)
    have h1 : ¬ (o : Int) ≤ 3 := by omega
    simp [h1] at hb
theorem start_held {ts : List AT} {n old : Nat} (h : (old + 1 ≤ 3 → Held ts n 0 ((old + 1 : Nat) : Int)) ∧ (3 < old + 1 → ts = [])) : Held ts n 0 ((old + 1 : Nat) : Int) ∨ Held ts 0 0 0 := by
  rcases Nat.lt_or_ge 3 (old + 1) with h2 | h2
  · rw [h.2 h2]; exact .inr (Held.nil 0)
  · exact .inl (h.1 h2)
theorem held_end {ts : List AT} {n j : Nat} {a : Int} (e : j = n) (h : Held ts n j a ∨ Held ts j j 0) : Held ts n 0 ((0 : Nat) : Int) := by
  subst e
  rcases h with h | h
  · refine ⟨h.keys, fun x hx k hk => ?_, h.src⟩
    obtain ⟨k', hk', e⟩ := h.key hx
    have := kHo_inj (hk.symm.trans e)
    have h2 := h.age x hx k hk
    rw [if_pos (by omega)] at h2
    simpa using h2
  · exact h.zero
theorem holds_p (n0 ev0 tk0 : Int) : PureCall Try.prog 6 [vI n0, vI ev0, vI tk0] (vB true) := by
  obtain ⟨n, hn, hn1, hn2⟩ : ∃ n : Nat, n0 % 10 + 1 = n ∧ 1 ≤ n ∧ n ≤ 10 := ⟨(n0 % 10 + 1).toNat, by omega, by omega, by omega⟩
  obtain ⟨ev, hev, hev1, hev2⟩ : ∃ ev : Nat, ev0 % 7 + 1 = ev ∧ 1 ≤ ev ∧ ev ≤ 7 := ⟨(ev0 % 7 + 1).toNat, by omega, by omega, by omega⟩
  obtain ⟨tk, htk, htk2⟩ : ∃ tk : Nat, tk0 % 20 = tk ∧ tk ≤ 20 := ⟨(tk0 % 20).toNat, by omega, by omega⟩
  have hwn : IntKind.i64.wrap (n : Int) = (n : Int) := wrap64_in _ (by omega) (by omega)
  have hwe : IntKind.i64.wrap (ev : Int) = (ev : Int) := wrap64_in _ (by omega) (by omega)
  refine p_enter Try.func6 rfl (fun h0 => ?_)
  simp only [argT]
  refine a_seq ?_
  refine a_reg [⟨some 6, none, .asg (.const (Value.bool false)), false⟩] kR kR ?_
  refine r_run ?_
  refine r_end [0, 1, 2, 6, 7, 8, 9, 10, 11, 12, 13, 14, 17, 28, 38, 47, 50, 71, 89] ?_
  refine a_seq ?_
  refine a_reg [⟨some 15, none, .call 20 [] [], false⟩, ⟨some 7, none, .asg (tm 15), false⟩] kR kR ?_
  refine r_run ?_
  refine r_call (first15_p) ?_
  refine r_run ?_
  refine r_end [0, 1, 2, 6, 7, 8, 9, 10, 11, 12, 13, 14, 17, 28, 38, 47, 50, 71, 89] ?_
  refine a_seq ?_
  refine a_seq ?_
  refine a_reg [⟨some 16, none, .mv (tm 7), false⟩, ⟨some 17, none, .not 4 (tm 16), false⟩] kR kR ?_
  refine r_run ?_
  refine r_end [0, 1, 2, 6, 7, 8, 9, 10, 11, 12, 13, 14, 17, 28, 38, 47, 50, 71, 89] ?_
  refine c_false ?_
  refine a_skip ?_
  refine a_seq ?_
  refine a_reg [⟨some 18, none, .mv (tm 0), false⟩, ⟨some 19, none, .call 12 [(tm 18), (ci 10)] [3, 3], false⟩, ⟨some 20, none, .bin .add 3 (tm 19) (ci 1) 3, false⟩, ⟨some 0, none, .asg (tm 20), false⟩] kR kR ?_
  refine r_run ?_
  refine r_call (number_p n0 10 (by decide) (by decide)) ?_
  refine r_run ?_
  refine r_end [0, 1, 2, 6, 7, 8, 9, 10, 11, 12, 13, 14, 17, 28, 38, 47, 50, 71, 89] ?_
  refine a_seq ?_
  refine a_reg [⟨some 21, none, .mv (tm 1), false⟩, ⟨some 22, none, .call 12 [(tm 21), (ci 7)] [3, 3], false⟩, ⟨some 23, none, .bin .add 3 (tm 22) (ci 1) 3, false⟩, ⟨some 1, none, .asg (tm 23), false⟩] kR kR ?_
  refine r_run ?_
  refine r_call (number_p ev0 7 (by decide) (by decide)) ?_
  refine r_run ?_
  refine r_end [0, 1, 2, 6, 7, 8, 9, 10, 11, 12, 13, 14, 17, 28, 38, 47, 50, 71, 89] ?_
  refine a_seq ?_
  refine a_reg [⟨some 24, none, .mv (tm 2), false⟩, ⟨some 25, none, .call 12 [(tm 24), (ci 20)] [3, 3], false⟩, ⟨some 2, none, .asg (tm 25), false⟩] kR kR ?_
  refine r_run ?_
  refine r_call (number_p tk0 20 (by decide) (by decide)) ?_
  refine r_run ?_
  refine r_end [0, 1, 2, 6, 7, 8, 9, 10, 11, 12, 13, 14, 17, 28, 38, 47, 50, 71, 89] ?_
  refine a_seq ?_
  refine a_reg [⟨some 8, none, .alc 60 [.map none] false, false⟩] kR kR ?_
  refine r_run ?_
  refine r_end [0, 1, 2, 6, 7, 8, 9, 10, 11, 12, 13, 14, 17, 28, 38, 47, 50, 71, 89] ?_
  refine a_seq ?_
  refine a_reg [⟨some 9, none, .asg (ci 0), false⟩] kR kR ?_
  refine r_run ?_
  refine r_end [0, 1, 2, 6, 7, 8, 9, 10, 11, 12, 13, 14, 17, 28, 38, 47, 50, 71, 89] ?_
  refine a_seq ?_
  refine a_seq ?_
  refine a_reg [⟨some 10, none, .asg (ci 0), false⟩] kR kR ?_
  refine r_run ?_
  refine r_end [0, 1, 2, 6, 7, 8, 9, 10, 11, 12, 13, 14, 17, 28, 38, 47, 50, 71, 89] ?_
  refine a_toext 8 rfl (fun D v h => ∃ p, v = .pointer (some ⟨p, 0, none⟩) ∧ TableAt h D p []) tbO_new (fun D => ?_)
  simp only [setS, ↓reduceIte]
  refine a_block ?_
  refine c_weak [0, 1, 2, 8, 9, 10] ?_
  refine a_loop (fun m T σ => ∃ (i : Nat) (ts : List AT) (D : Nat → Prop), m = n - i ∧ i ≤ n ∧ Held ts i i 0 ∧ T = [(0, .fz (vI n)), (1, .fz (vI ev)), (2, .fz (vI tk)), (8, .oe 8 1 0 0), (9, .fz (vI 0)), (10, .fz (vI i))] ∧ σ = [(8, tbO ts D)]) (n) (⟨0, [], D, rfl, by omega, Held.nil 0, rfl, rfl⟩) ?_
  rintro m T σ ⟨i, ts, D, hmi, hi, hH, rfl, rfl⟩
  refine a_seq ?_
  refine a_seq ?_
  refine a_reg [⟨some 26, none, .mv (tm 10), false⟩, ⟨some 27, none, .mv (tm 0), false⟩, ⟨some 28, none, .bin .lss 3 (tm 26) (tm 27) 3, false⟩] kR kR ?_
  refine r_run ?_
  refine r_end [0, 1, 2, 6, 7, 8, 9, 10, 11, 12, 13, 14, 17, 28, 38, 47, 50, 71, 89] ?_
  refine c_cond (fun hb1 => ?_) (fun hb1 => ?_)
  · simp only [decide_eq_true_eq] at hb1
    have hwi : IntKind.i64.wrap ((i : Int) + 1) = ((i + 1 : Nat) : Int) := wrap64_nat _ _ (by omega) (by omega)
    refine a_skip ?_
    refine a_seq ?_
    refine a_block ?_
    refine a_reg [⟨some 31, none, .mv (tm 10), false⟩, ⟨some 32, none, .bld 57 [(0, (ci 2)), (1, (tm 31))] [(0, 1), (1, 1), (2, 1), (3, 2)] [.int .i64 0, .int .i64 0, .int .u32 0, .int .u32 0, .int .u32 0], false⟩, ⟨some 33, none, .mv (tm 10), false⟩, ⟨some 34, none, .bld 55 [(5, (tm 33))] [(0, 1), (1, 1), (2, 1), (3, 2), (5, 1), (6, 1), (7, 1), (8, 1)] [.int .i64 0, .int .u32 0, .int .u32 0, .int .u32 0, .int .u32 0, .int .i64 0, .int .i64 0, .bool false, .slice none 0 0], false⟩, ⟨some 35, none, .call 22 [(tm 8), (tm 32), (tm 34)] [60, 57, 55], false⟩] kR kR ?_
    refine r_run ?_
    refine r_callG [8] (hear_g ts D (kHo i) (mHo i) (by rw [hH.len]; omega) (Nat.zero_le _)) (fun D2 _ => ?_) (cv := AConv.cons (fun _ _ _ r => r) (AConv.cons (fun _ _ _ r => r) (AConv.cons (aconv_fz (msg_conv _)) AConv.rfl')))
    refine r_run ?_
    refine r_end [0, 1, 2, 6, 7, 8, 9, 10, 11, 12, 13, 14, 17, 28, 38, 47, 50, 71, 89] ?_
    refine a_nil ?_
    refine x_end ?_
    refine a_reg [⟨some 29, none, .mv (tm 10), false⟩, ⟨some 30, none, .bin .add 3 (tm 29) (ci 1) 3, false⟩, ⟨some 10, none, .asg (tm 30), false⟩] kR kR ?_
    refine r_run ?_
    refine r_end [0, 1, 2, 6, 7, 8, 9, 10, 11, 12, 13, 14, 17, 28, 38, 47, 50, 71, 89] ?_
    refine a_nil ?_
    refine x_weak [0, 1, 2, 8, 9, 10] ?_
    exact x_next (n - (i + 1)) (by omega) (⟨i + 1, putT ts (kHo i) (mHo i), D2, rfl, by omega, hH.new _, rfl, rfl⟩)
  · simp only [decide_eq_false_iff_not] at hb1
    have hin : i = n := by omega
    have hH0 : Held ts n 0 0 := by rw [hin] at hH; exact hH.zero
    refine a_exit ?_
    refine x_then ?_
    refine x_here ?_
    refine a_seq ?_
    refine a_seq ?_
    refine a_reg [⟨some 11, none, .asg (ci 1), false⟩] kR kR ?_
    refine r_run ?_
    refine r_end [0, 1, 2, 6, 7, 8, 9, 10, 11, 12, 13, 14, 17, 28, 38, 47, 50, 71, 89] ?_
    refine a_block ?_
    refine c_weak [0, 1, 2, 8, 9, 11] ?_
    refine a_loop (fun m T σ => ∃ (i old : Nat) (ts : List AT) (D : Nat → Prop), m = tk + 1 - i ∧ 1 ≤ i ∧ i ≤ tk + 1 ∧ old ≤ i ∧ (old ≤ 3 → Held ts n 0 old) ∧ (3 < old → ts = []) ∧ T = [(0, .fz (vI n)), (1, .fz (vI ev)), (2, .fz (vI tk)), (8, .oe 8 1 0 0), (9, .fz (vI old)), (11, .fz (vI i))] ∧ σ = [(8, tbO ts D)]) (tk) (⟨1, 0, ts, D, by omega, by omega, by omega, by omega, fun _ => hH0, fun h => by omega, rfl, rfl⟩) ?_
    rintro m T σ ⟨i, old, ts, D, hmi, hi1, hi2, ho, hH, hE, rfl, rfl⟩
    refine a_seq ?_
    refine a_seq ?_
    refine a_reg [⟨some 36, none, .mv (tm 11), false⟩, ⟨some 37, none, .mv (tm 2), false⟩, ⟨some 38, none, .bin .leq 3 (tm 36) (tm 37) 3, false⟩] kR kR ?_
    refine r_run ?_
    refine r_end [0, 1, 2, 6, 7, 8, 9, 10, 11, 12, 13, 14, 17, 28, 38, 47, 50, 71, 89] ?_
    refine c_cond (fun hb2 => ?_) (fun hb2 => ?_)
    · simp only [decide_eq_true_eq] at hb2
      have hfew : ts.length ≤ 10 := few_held hH hE hn2
      have hwi : IntKind.i64.wrap ((i : Int) + 1) = ((i + 1 : Nat) : Int) := wrap64_nat _ _ (by omega) (by omega)
      have hwo : IntKind.i64.wrap ((old : Int) + 1) = ((old + 1 : Nat) : Int) := wrap64_nat _ _ (by omega) (by omega)
      obtain ⟨ts1, hts1⟩ : ∃ ts1, ts.filterMap tickT = ts1 := ⟨_, rfl⟩
      have hT : (old + 1 ≤ 3 → Held ts1 n 0 ((old + 1 : Nat) : Int)) ∧ (3 < old + 1 → ts1 = []) := tick_held hH hE hts1
      refine a_skip ?_
      refine a_seq ?_
      refine a_block ?_
      refine a_seq ?_
      refine a_reg [⟨some 41, none, .call 23 [(tm 8)] [60], false⟩] kR kR ?_
      refine r_run ?_
      refine r_callG [8] (tick_g ts D (by omega)) (fun y hy => ?_)
      refine r_run ?_
      refine r_end [0, 1, 2, 6, 7, 8, 9, 10, 11, 12, 13, 14, 17, 28, 38, 47, 50, 71, 89] ?_
      refine a_seq ?_
      refine a_reg [⟨some 42, none, .mv (tm 9), false⟩, ⟨some 43, none, .bin .add 3 (tm 42) (ci 1) 3, false⟩, ⟨some 9, none, .asg (tm 43), false⟩] kR kR ?_
      refine r_run ?_
      refine r_end [0, 1, 2, 6, 7, 8, 9, 10, 11, 12, 13, 14, 17, 28, 38, 47, 50, 71, 89] ?_
      refine a_seq ?_
      refine a_seq ?_
      refine a_reg [⟨some 44, none, .mv (tm 11), false⟩, ⟨some 45, none, .mv (tm 1), false⟩, ⟨some 46, none, .bin .rem 3 (tm 44) (tm 45) 3, false⟩, ⟨some 47, none, .bin .eql 3 (tm 46) (ci 0) 3, false⟩] kR kR ?_
      refine r_run ?_
      refine r_end [0, 1, 2, 6, 7, 8, 9, 10, 11, 12, 13, 14, 17, 28, 38, 47, 50, 71, 89] ?_
      refine a_join (fun T σ => ∃ (o : Nat) (ts2 : List AT) (D2 : Nat → Prop), o ≤ i + 1 ∧ (o ≤ 3 → Held ts2 n 0 o) ∧ (3 < o → ts2 = []) ∧ T = [(0, .fz (vI n)), (1, .fz (vI ev)), (2, .fz (vI tk)), (8, .oe 8 1 0 0), (9, .fz (vI o)), (11, .fz (vI i))] ∧ σ = [(8, tbO ts2 D2)]) ?_ ?_
      · refine c_cond (fun hb3 => ?_) (fun hb3 => ?_)
        · refine a_seq ?_
          refine a_seq ?_
          refine a_reg [⟨some 12, none, .asg (ci 0), false⟩] kR kR ?_
          refine r_run ?_
          refine r_end [0, 1, 2, 6, 7, 8, 9, 10, 11, 12, 13, 14, 17, 28, 38, 47, 50, 71, 89] ?_
          refine a_block ?_
          refine c_weak [0, 1, 2, 8, 11, 12] ?_
          refine a_loop (fun m T σ => ∃ (j : Nat) (ts3 : List AT) (D3 : Nat → Prop), m = n - j ∧ j ≤ n ∧ (Held ts3 n j ((old + 1 : Nat) : Int) ∨ Held ts3 j j 0) ∧ T = [(0, .fz (vI n)), (1, .fz (vI ev)), (2, .fz (vI tk)), (8, .oe 8 1 0 0), (11, .fz (vI i)), (12, .fz (vI j))] ∧ σ = [(8, tbO ts3 D3)]) (n) (⟨0, ts1, D, rfl, by omega, start_held hT, rfl, rfl⟩) ?_
          rintro m T σ ⟨j, ts3, D3, hmj, hj, hH3, rfl, rfl⟩
          refine a_seq ?_
          refine a_seq ?_
          refine a_reg [⟨some 48, none, .mv (tm 12), false⟩, ⟨some 49, none, .mv (tm 0), false⟩, ⟨some 50, none, .bin .lss 3 (tm 48) (tm 49) 3, false⟩] kR kR ?_
          refine r_run ?_
          refine r_end [0, 1, 2, 6, 7, 8, 9, 10, 11, 12, 13, 14, 17, 28, 38, 47, 50, 71, 89] ?_
          refine c_cond (fun hb4 => ?_) (fun hb4 => ?_)
          · simp only [decide_eq_true_eq] at hb4
            have hwj : IntKind.i64.wrap ((j : Int) + 1) = ((j + 1 : Nat) : Int) := wrap64_nat _ _ (by omega) (by omega)
            refine a_skip ?_
            refine a_seq ?_
            refine a_block ?_
            refine a_reg [⟨some 53, none, .mv (tm 12), false⟩, ⟨some 54, none, .bld 57 [(0, (ci 2)), (1, (tm 53))] [(0, 1), (1, 1), (2, 1), (3, 2)] [.int .i64 0, .int .i64 0, .int .u32 0, .int .u32 0, .int .u32 0], false⟩, ⟨some 55, none, .mv (tm 11), false⟩, ⟨some 56, none, .bld 55 [(5, (tm 55))] [(0, 1), (1, 1), (2, 1), (3, 2), (5, 1), (6, 1), (7, 1), (8, 1)] [.int .i64 0, .int .u32 0, .int .u32 0, .int .u32 0, .int .u32 0, .int .i64 0, .int .i64 0, .bool false, .slice none 0 0], false⟩, ⟨some 57, none, .call 22 [(tm 8), (tm 54), (tm 56)] [60, 57, 55], false⟩] kR kR ?_
            refine r_run ?_
            refine r_callG [8] (hear_g ts3 D3 (kHo j) (mHo i) (by rcases hH3 with h | h <;> rw [h.len] <;> omega) (Nat.zero_le _)) (fun D4 _ => ?_) (cv := AConv.cons (fun _ _ _ r => r) (AConv.cons (fun _ _ _ r => r) (AConv.cons (aconv_fz (msg_conv _)) AConv.rfl')))
            refine r_run ?_
            refine r_end [0, 1, 2, 6, 7, 8, 9, 10, 11, 12, 13, 14, 17, 28, 38, 47, 50, 71, 89] ?_
            refine a_nil ?_
            refine x_end ?_
            refine a_reg [⟨some 51, none, .mv (tm 12), false⟩, ⟨some 52, none, .bin .add 3 (tm 51) (ci 1) 3, false⟩, ⟨some 12, none, .asg (tm 52), false⟩] kR kR ?_
            refine r_run ?_
            refine r_end [0, 1, 2, 6, 7, 8, 9, 10, 11, 12, 13, 14, 17, 28, 38, 47, 50, 71, 89] ?_
            refine a_nil ?_
            refine x_weak [0, 1, 2, 8, 11, 12] ?_
            exact x_next (n - (j + 1)) (by omega) (⟨j + 1, putT ts3 (kHo j) (mHo i), D4, rfl, by omega, hH3.imp (fun h => h.put (by omega) _) (fun h => h.new _), rfl, rfl⟩)
          · simp only [decide_eq_false_iff_not] at hb4
            have hj2 : j = n := by omega
            refine a_exit ?_
            refine x_then ?_
            refine x_here ?_
            refine a_reg [⟨some 9, none, .asg (ci 0), false⟩] kR kR ?_
            refine r_run ?_
            refine r_end [0, 1, 2, 6, 7, 8, 9, 10, 11, 12, 13, 14, 17, 28, 38, 47, 50, 71, 89] ?_
            refine a_nil ?_
            refine x_weak [0, 1, 2, 8, 9, 11] ?_
            exact x_join (⟨0, ts3, D3, by omega, fun _ => held_end hj2 hH3, fun h => by omega, rfl, rfl⟩)
        · refine a_skip ?_
          refine a_nil ?_
          refine x_weak [0, 1, 2, 8, 9, 11] ?_
          exact x_join (⟨old + 1, ts1, D, by omega, hT.1, hT.2, rfl, rfl⟩)
      · rintro T σ ⟨o, ts2, D2, ho2, hH2, hE2, rfl, rfl⟩
        refine a_seq ?_
        refine a_seq ?_
        refine a_reg [⟨some 58, none, .call 27 [(tm 8)] [60], false⟩, ⟨some 59, none, .mv (tm 0), false⟩, ⟨some 60, none, .bin .eql 3 (tm 58) (tm 59) 3, false⟩, ⟨some 61, none, .mv (tm 9), false⟩, ⟨some 62, none, .bin .leq 3 (tm 61) (ci 3) 3, false⟩, ⟨some 63, none, .neb 0 4 (tm 60) (tm 62) 4, false⟩, ⟨some 64, none, .mv (tm 63), false⟩, ⟨some 65, some (64, false), .mv (tm 9), false⟩, ⟨some 66, some (64, false), .bin .gtr 3 (tm 65) (ci 3) 3, false⟩, ⟨some 67, some (64, false), .mv (tm 66), false⟩, ⟨some 68, some (67, true), .call 27 [(tm 8)] [60], false⟩, ⟨some 69, some (67, true), .bin .neq 3 (tm 68) (ci 0) 3, false⟩, ⟨some 70, some (64, false), .pick 67 (tm 69) (.const (Value.bool false)), false⟩, ⟨some 71, none, .pick 64 (.const (Value.bool true)) (tm 70), false⟩] kR kR ?_
        refine r_run ?_
        refine r_callG [8] (len_g ts2 D2) (fun u1 hu1 => ?_)
        refine r_run ?_
        refine r_callGg [8] (len_g ts2 D2) (⟨(), trivial⟩) (fun u2 hu2 => ?_)
        refine r_run ?_
        refine r_end [0, 1, 2, 6, 7, 8, 9, 10, 11, 12, 13, 14, 17, 28, 38, 47, 50, 71, 89] ?_
        refine c_cond (fun hb5 => ?_) (fun hb5 => ?_)
        · exact (no5 hH2 hE2 hn1 hb5).elim
        · refine a_skip ?_
          refine a_seq ?_
          have hEn : ∀ (k : ThK) (ag : Int) (m : MsgA), encEn k ag m = [vI k.1.1, vI k.1.2.1, vU k.1.2.2, vU k.2.1, vU k.2.2, vI ag, vI m.kind, vU m.frm, vU m.to, vU m.src, vU m.grp, vI m.rank, vI m.cost, vB m.only, encSr m.srcs] := fun _ _ _ => rfl
          have hSr : ∀ xs, encSr xs = slOf (fun z => [.val (.int .u32 z)]) xs := fun _ => rfl
          refine a_reg [⟨some 73, none, .bld 57 [(0, (ci 2))] [(0, 1), (1, 1), (2, 1), (3, 2)] [.int .i64 0, .int .i64 0, .int .u32 0, .int .u32 0, .int .u32 0], false⟩, ⟨some 74, none, .call 24 [(tm 8), (tm 73)] [60, 57], false⟩, ⟨some 72, none, .mv (tm 74), false⟩, ⟨some 75, none, .ext (tm 72) 0, false⟩, ⟨some 76, none, .ext (tm 72) 1, false⟩, ⟨some 13, none, .alc 64 [.int .i64 0, .int .i64 0, .int .u32 0, .int .u32 0, .int .u32 0, .int .i64 0, .int .i64 0, .int .u32 0, .int .u32 0, .int .u32 0, .int .u32 0, .int .i64 0, .int .i64 0, .bool false, .slice none 0 0] false, false⟩, ⟨none, none, .stN 64 (tm 13) (tm 75) 15, false⟩, ⟨some 14, none, .asg (tm 76), false⟩] kR kR ?_
          refine r_run ?_
          refine r_callG [8] (get_g ts2 D2 (kHo 0)) (fun y hy => ?_)
          refine r_run ?_
          refine r_end [0, 1, 2, 6, 7, 8, 9, 10, 11, 12, 13, 14, 17, 28, 38, 47, 50, 71, 89] ?_
          refine a_seq ?_
          refine a_reg [⟨some 77, none, .mv (tm 14), false⟩, ⟨some 78, none, .mv (tm 9), false⟩, ⟨some 79, none, .bin .leq 3 (tm 78) (ci 3) 3, false⟩, ⟨some 80, none, .neb 0 4 (tm 77) (tm 79) 4, false⟩, ⟨some 81, none, .mv (tm 80), false⟩, ⟨some 82, some (81, false), .mv (tm 14), false⟩, ⟨some 83, some (81, false), .mv (tm 82), false⟩, ⟨some 84, some (83, true), .fa 64 (tm 13) 1 5 1, false⟩, ⟨some 85, some (83, true), .ld 3 (tm 84), false⟩, ⟨some 86, some (83, true), .mv (tm 9), false⟩, ⟨some 87, some (83, true), .bin .neq 3 (tm 85) (tm 86) 3, false⟩, ⟨some 88, some (81, false), .pick 83 (tm 87) (.const (Value.bool false)), false⟩, ⟨some 89, none, .pick 81 (.const (Value.bool true)) (tm 88), false⟩] kR kR ?_
          refine r_run ?_
          refine r_end [0, 1, 2, 6, 7, 8, 9, 10, 11, 12, 13, 14, 17, 28, 38, 47, 50, 71, 89] ?_
          refine c_cond (fun hb6 => ?_) (fun hb6 => ?_)
          · exact (no6 hH2 hE2 hn1 hy.1 hb6).elim
          · refine a_skip ?_
            refine a_nil ?_
            refine x_end ?_
            refine a_reg [⟨some 39, none, .mv (tm 11), false⟩, ⟨some 40, none, .bin .add 3 (tm 39) (ci 1) 3, false⟩, ⟨some 11, none, .asg (tm 40), false⟩] kR kR ?_
            refine r_run ?_
            refine r_end [0, 1, 2, 6, 7, 8, 9, 10, 11, 12, 13, 14, 17, 28, 38, 47, 50, 71, 89] ?_
            refine a_nil ?_
            refine x_weak [0, 1, 2, 8, 9, 11] ?_
            exact x_next (tk + 1 - (i + 1)) (by omega) (⟨i + 1, o, ts2, D2, rfl, by omega, by omega, by omega, hH2, hE2, rfl, rfl⟩)
    · simp only [decide_eq_false_iff_not] at hb2
      refine a_exit ?_
      refine x_then ?_
      refine x_here ?_
      refine a_seq ?_
      refine a_reg [⟨some 90, none, .call 29 [(tm 8), (ci 1)] [60, 3], false⟩, ⟨some 91, none, .len 71 (tm 90) 64, false⟩, ⟨some 92, none, .bin .eql 3 (tm 91) (ci 0) 3, false⟩, ⟨some 93, none, .mv (tm 92), false⟩, ⟨some 94, some (93, true), .call 29 [(tm 8), (ci 2)] [60, 3], false⟩, ⟨some 95, some (93, true), .len 71 (tm 94) 64, false⟩, ⟨some 96, some (93, true), .call 27 [(tm 8)] [60], false⟩, ⟨some 97, some (93, true), .bin .eql 3 (tm 95) (tm 96) 3, false⟩, ⟨some 98, none, .pick 93 (tm 97) (.const (Value.bool false)), false⟩, ⟨some 6, none, .asg (tm 98), false⟩] kR kR ?_
      refine r_run ?_
      refine r_callG [8] (all_g ts D 1 (src_held hH hE) (Nat.le_trans (few_held hH hE hn2) (by decide))) (fun l1 hl1 => ?_)
      refine r_run ?_
      refine r_callGg [8] (all_g ts D 2 (src_held hH hE) (Nat.le_trans (few_held hH hE hn2) (by decide))) (all_some ts 2) (fun l2 hl2 => ?_)
      refine r_run ?_
      refine r_callGg [8] (len_g ts D) (⟨(), trivial⟩) (fun u3 hu3 => ?_)
      refine r_run ?_
      refine r_end [0, 1, 2, 6, 7, 8, 9, 10, 11, 12, 13, 14, 17, 28, 38, 47, 50, 71, 89] ?_
      refine a_ret ?_
      refine y_ret1 (.tmp 6) (none) ?_
      exact frep_of (end_held hH hE hl1 hl2)
end Go.Proofs.Ytielfejpnkcjbaa

/- AgeHolds: the row over the walk. -/
namespace Go.Proofs.Ytielfejpnkcjbaa.ageHolds
open Go.ChangeShapes Go.WideShapes Go.ChangeAt Go.RowKit Go.Proofs.Ytielfejpnkcjbaa.Sl
set_option linter.unusedVariables false
theorem own : ownKnob Try.prog.godebug = none := by kernel_rfl
theorem walk (a0 : Int) (w0 : (Lit.int .i64 a0).wf = true) (a1 : Int) (w1 : (Lit.int .i64 a1).wf = true) (a2 : Int) (w2 : (Lit.int .i64 a2).wf = true) (w : World) :
    SCalls Try.prog 6 #[.int .i64 a0, .int .i64 a1, .int .i64 a2] (heapOf w) (fun r h => (heapOf w).le h ∧ r = .bool true) := by
  have h1 : Ab.FReps (heapOf w) [Ab.vI a0, Ab.vI a1, Ab.vI a2] [.int .i64 a0, .int .i64 a1, .int .i64 a2] := .cons (.val _) (.cons (.val _) (.cons (.val _) FReps.nil'))
  exact (holds_p a0 a1 a2 (heapOf w) _ h1).mono fun r h ⟨hle, hr⟩ => ⟨hle, Ab.frep_val hr⟩
set_option maxRecDepth 100000 in
theorem lifted (os : Os) (started : os.Started) (H : Type) (enc : TypeId × Value → H) :
    ReturnsInHanded {} Try.checked os 6 .any (Rows.ageHoldsSpec.pre6 enc Try.prog Try.f6 Rows.ageHoldsRow.domain false) (Rows.ageHoldsSpec.post enc Try.prog Try.f6 false true false false) := by
  refine returnsInHanded_of_change (C := Try.checked) own started kR Try.func6
    (ChangeSpec.witness6 (enc := enc) (C := Try.checked) false ⟨#[], #[.int .i64 0, .int .i64 0, .int .i64 0], []⟩ 8 kR kR kR kR) ?_
  intro W base args ds gs before hval0 hW hcnd _
  have hval : ∀ (j : Nat) t v, Try.f6.params[j]? = some t → args[j]? = some v → Value.okWide Try.prog W .any base t v := hval0
  have hW' := hW
  obtain ⟨p, q, hA0, hV, rfl, hfz, hnd⟩ := hW
  have hA : DataW.TrodAll enc Try.prog W 0 (fun _ => true) true Try.f6.params.toList args.toList ds p := hA0
  rw [Try.params6] at hA hval
  obtain ⟨v0, vs0, d0, ds0, p0, q0, hargs, rfl, rfl, h0, r0⟩ := trodAll_cons hA
  obtain ⟨v1, vs1, d1, ds1, p1, q1, rfl, rfl, rfl, h1, r1⟩ := trodAll_cons r0
  obtain ⟨v2, vs2, d2, ds2, p2, q2, rfl, rfl, rfl, h2, r2⟩ := trodAll_cons r1
  obtain ⟨rfl, rfl, rfl⟩ := trodAll_nil r2
  obtain rfl : args = #[v0, v1, v2] := by cases args; simp_all
  obtain ⟨rfl, rfl⟩ := trodVars_none hV
  obtain ⟨a0, rfl, rfl, rfl, w0⟩ := open_int Try.underlying3 (hval 0 3 v0 rfl rfl) h0
  obtain ⟨a1, rfl, rfl, rfl, w1⟩ := open_int Try.underlying3 (hval 1 3 v1 rfl rfl) h1
  obtain ⟨a2, rfl, rfl, rfl, w2⟩ := open_int Try.underlying3 (hval 2 3 v2 rfl rfl) h2
  clear hA0 hval0
  refine (calls_below (walk a0 w0 a1 w1 a2 w2 W)).mono fun e W2 ⟨he, hb⟩ => ?_
  subst he
  exact ⟨_, rfl, law_post (tb := 4) kR kR rfl rfl Try.underlying4 rfl hW' hb⟩
theorem over : Rows.ageHoldsRow.holds Try.pinned (OpenSpec.ofChange Rows.ageHoldsSpec) :=
  OpenClaim.holds_of_wide 6 Try.f6 rfl rfl rfl rfl rfl rfl rfl ⟨rfl, rfl, rfl, rfl, rfl⟩ rfl rfl rfl rfl rfl kR Try.func6 kR
    (of_decide_eq_true kR) (by unfold Func.isWrapper; first | (rw [if_pos (by decide +kernel)]; kernel_rfl) | (rw [if_neg (by decide +kernel)]; exact ⟨rfl, rfl⟩))
    (fun os started H enc _ => lifted os started H enc)
theorem proved : Rows.AgeHoldsSaid := over
end Go.Proofs.Ytielfejpnkcjbaa.ageHolds
